/-
  Numbers by their digits: products, comparisons, sums, quotients, and the nearest number of 32 bits, as the reference's functions have them. Conditions stand in each lemma.
-/
import Derived.Test.YtmedmifkeliepaaZNat
import Derived.Test.YtmedmifkeliepaaPFiveMulsx0
import Derived.Test.YtmedmifkeliepaaPFiveMulsx1
import Derived.Test.YtmedmifkeliepaaPFiveMulsx2
import Derived.Test.YtmedmifkeliepaaPFiveMulsx3
import Derived.Test.YtmedmifkeliepaaPFiveMulsx4
import Derived.Test.YtmedmifkeliepaaPFiveMulsx5
import Derived.Test.YtmedmifkeliepaaPFiveMulsx6
import Derived.Test.YtmedmifkeliepaaPFiveMulsx7
import Derived.Test.YtmedmifkeliepaaPFiveMulsx8
set_option linter.unusedVariables false
set_option linter.unusedSimpArgs false
namespace Go.Proofs.Ytmedmifkeliepaa.BkFiveMuls
open Go Go.RowKit Go.Proofs.YtmedmifkeliepaaW.PrintWords Go.Proofs.YtmedmifkeliepaaW.PrintLast Go.Proofs.YtmedmifkeliepaaW.PrintMore Go.Proofs.Ytmedmifkeliepaa.PFiveMuls Go.Proofs.Ytmedmifkeliepaa.Bk
theorem wu64 (n : Int) (h0 : 0 ≤ n) (h1 : n < 18446744073709551616) : IntKind.u64.wrap n = n := by rw [IntKind.wrap_u64]; omega
theorem tdiv_nat (a b : Nat) : Int.tdiv (a : Int) (b : Int) = ((a / b : Nat) : Int) := rfl
theorem tmod_nat (a b : Nat) : Int.tmod (a : Int) (b : Int) = ((a % b : Nat) : Int) := rfl
theorem natOf_loop : ∀ (n : Nat) (out : List Int), n < 18446744073709551616 → out.length + (dig n).length < 17592186044416 → Ev (fun k => bakeref2_natOf.l0 k (n : Int) out) (out ++ dig n) := by
  intro n
  induction n using Nat.strongRecOn with
  | ind n ih =>
    intro out hn hl
    by_cases h0 : n = 0
    · subst h0
      refine Ev.done fun k => ?_
      simp only [bakeref2_natOf.l0]
      rw [if_neg (by omega), dig_zero, List.append_nil]
    · have hd := dig_pos (n := n) (by omega)
      rw [hd] at hl ⊢
      simp only [List.length_cons] at hl
      have h := ih (n / 10000) (by omega) (out ++ [((n % 10000 : Nat) : Int)]) (by omega) (by simp only [List.length_append, List.length_cons, List.length_nil]; omega)
      rw [List.append_assoc] at h
      refine Ev.step (fun k => ?_) h
      simp only [bakeref2_natOf.l0]
      rw [if_pos (by omega), if_pos (by omega), show ((10000 : Int)) = ((10000 : Nat) : Int) from rfl, tdiv_nat, tmod_nat, wu64 _ (by omega) (by omega), w64 _ (by omega) (by omega)]
def Sm (n : Nat) : Prop := (dig n).length < 1000
theorem sm_pow {n : Nat} (h : n < 10000 ^ 60) : Sm n := by
  have := dig_len_le 60 n h
  unfold Sm; omega
theorem sm_of {a b : Nat} (h : a ≤ b) (hb : Sm b) : Sm a := by
  have := dig_len_mono h
  unfold Sm at hb ⊢; omega
theorem dig_len_of (n : Nat) (h : Sm n) : (dig n).length < 1000 := h
theorem natOf_ev (n : Nat) (h : n < 18446744073709551616) : Ev (fun k => bakeref2_natOf.f k (n : Int)) (dig n) := by
  unfold bakeref2_natOf.f
  have := dig_len_of n (sm_pow (Nat.lt_of_lt_of_le h (by decide)))
  exact natOf_loop n [] h (by simp only [List.length_nil]; omega)
theorem times_tail (b : Nat) (hb : 0 < b) : ∀ (c : Nat) (out : List Int), c < 9223372036854775808 → out.length + (dig c).length < 17592186044416 → Ev (fun k => bakeref2_nat_times.l1 k (b : Int) out (c : Int)) (out ++ dig c) := by
  intro c
  induction c using Nat.strongRecOn with
  | ind c ih =>
    intro out hn hl
    by_cases h0 : c = 0
    · subst h0
      refine Ev.done fun k => ?_
      simp only [bakeref2_nat_times.l1]
      rw [if_neg (by omega), if_neg (by omega), dig_zero, List.append_nil]
    · have hd := dig_pos (n := c) (by omega)
      rw [hd] at hl ⊢
      simp only [List.length_cons] at hl
      have h := ih (c / 10000) (by omega) (out ++ [((c % 10000 : Nat) : Int)]) (by omega) (by simp only [List.length_append, List.length_cons, List.length_nil]; omega)
      rw [List.append_assoc] at h
      refine Ev.step (fun k => ?_) h
      simp only [bakeref2_nat_times.l1]
      rw [if_pos (by omega), if_pos (by omega), show ((10000 : Int)) = ((10000 : Nat) : Int) from rfl, tdiv_nat, tmod_nat, w64 _ (by omega) (by omega)]
theorem times_num (b c r : Nat) (hb : 0 < b) (hr : 0 < r) : (c + b * r) % 10000 = (c + (r % 10000) * b) % 10000 ∧ (c + b * r) / 10000 = (c + (r % 10000) * b) / 10000 + b * (r / 10000) := by
  have h : c + b * r = (c + (r % 10000) * b) + 10000 * (b * (r / 10000)) := by
    have h1 : b * r = b * (r % 10000 + 10000 * (r / 10000)) := by rw [Nat.mod_add_div]
    rw [h1, Nat.mul_add, Nat.mul_comm b (r % 10000), Nat.add_assoc, Nat.mul_left_comm b 10000]
  generalize b * (r / 10000) = z at h ⊢
  generalize c + (r % 10000) * b = t at h ⊢
  omega
theorem times_loop (b : Nat) (hb : 0 < b) (hb' : b ≤ 1099511627776) (L : List Int) (hL : L.length < 1000000) : ∀ (r : Nat) (pre out : List Int) (c : Nat), L = pre ++ dig r → c ≤ b → out.length + (dig (c + b * r)).length < 17592186044416 →
    Ev (fun k => bakeref2_nat_times.l0 k (b : Int) out (c : Int) L (L.length : Int) (pre.length : Int)) (out ++ dig (c + b * r)) := by
  intro r
  induction r using Nat.strongRecOn with
  | ind r ih =>
    intro pre out c hl hc hlen
    by_cases h0 : r = 0
    · subst h0
      rw [dig_zero] at hl
      refine Ev.step (f := fun k => bakeref2_nat_times.l1 k (b : Int) out (c : Int)) (fun k => ?_) ?_
      · simp only [bakeref2_nat_times.l0]
        rw [if_neg (at_end hl)]
      · rw [Nat.mul_zero, Nat.add_zero] at hlen ⊢
        exact times_tail b hb c out (by omega) hlen
    · have hr : 0 < r := by omega
      have hp : 0 < c + b * r := by have := Nat.mul_pos hb hr; omega
      rw [dig_pos hr] at hl
      have a := at_mid hl (by omega)
      obtain ⟨e1, e2⟩ := times_num b c r hb hr
      have hd := dig_pos hp
      rw [hd] at hlen ⊢
      rw [e1, e2] at hlen ⊢
      simp only [List.length_cons] at hlen
      have hm : (r % 10000) * b ≤ 9999 * b := Nat.mul_le_mul_right _ (by omega)
      have hc' : (c + (r % 10000) * b) / 10000 ≤ b := by omega
      have h := ih (r / 10000) (by omega) (pre ++ [((r % 10000 : Nat) : Int)]) (out ++ [(((c + (r % 10000) * b) % 10000 : Nat) : Int)]) ((c + (r % 10000) * b) / 10000) (next_mid hl) hc' (by simp only [List.length_append, List.length_cons, List.length_nil]; omega)
      rw [List.append_assoc] at h
      refine Ev.step (fun k => ?_) h
      simp only [bakeref2_nat_times.l0]
      rw [if_pos a.2.1, if_pos a.1, if_pos a.2.1, if_pos (by omega), a.2.2.1, a.2.2.2]
      rw [show ((r % 10000 : Nat) : Int) * (b : Int) = (((r % 10000) * b : Nat) : Int) from (Int.natCast_mul _ _).symm]
      generalize (r % 10000) * b = t at hm ⊢
      rw [w64 (t : Int) (by omega) (by omega), show (c : Int) + (t : Int) = ((c + t : Nat) : Int) from (Int.natCast_add _ _).symm, w64 ((c + t : Nat) : Int) (by omega) (by omega), show ((10000 : Int)) = ((10000 : Nat) : Int) from rfl, tdiv_nat, tmod_nat, w64 _ (by omega) (by omega)]
/-- A number times another one, by its digits. -/
theorem times_ev (a b : Nat) (hb : 0 < b) (hb' : b ≤ 1099511627776) (ha : Sm a) (hab : Sm (b * a)) : Ev (fun k => bakeref2_nat_times.f k (dig a) (b : Int)) (dig (b * a)) := by
  unfold bakeref2_nat_times.f
  have h1 := dig_len_of a ha
  have h2 := dig_len_of (b * a) hab
  have := times_loop b hb hb' (dig a) (by omega) a [] [] 0 rfl (by omega) (by rw [Nat.zero_add]; simp only [List.length_nil]; omega)
  rw [Nat.zero_add, List.nil_append] at this
  exact this
theorem less_num (x y u v P s t : Int) (h0 : 0 ≤ u) (h1 : u < P) (h2 : 0 ≤ v) (h3 : v < P) (hs : s = t) (hne : x ≠ y) : (u + P * (x + 10000 * s) < v + P * (y + 10000 * t)) ↔ x < y := by
  subst hs
  rw [Int.mul_add, Int.mul_add]
  generalize P * (10000 * s) = z
  constructor
  · intro h
    by_cases hxy : x < y
    · exact hxy
    · exfalso
      have : y + 1 ≤ x := by omega
      have := Int.mul_le_mul_of_nonneg_left this (by omega : 0 ≤ P)
      rw [Int.mul_add, Int.mul_one] at this
      omega
  · intro h
    have : x + 1 ≤ y := by omega
    have := Int.mul_le_mul_of_nonneg_left this (by omega : 0 ≤ P)
    rw [Int.mul_add, Int.mul_one] at this
    omega
theorem less_loop (a b : Nat) (ha : Sm a) (hb : Sm b) : ∀ (n : Nat) (p q s : List Int), p.length = n → q.length = n → dig a = p ++ s → dig b = q ++ s → Ev (fun k => bakeref2_nat_less.l0 k (dig a) (dig b) ((n : Int) - 1)) (decide (a < b))
  | 0, p, q, s, hp, hq, h1, h2 => by
    have e1 : p = [] := List.eq_nil_of_length_eq_zero hp
    have e2 : q = [] := List.eq_nil_of_length_eq_zero hq
    subst e1 e2
    have hv : ((a : Nat) : Int) = ((b : Nat) : Int) := by rw [← val_dig a, ← val_dig b, h1, h2]
    refine Ev.done fun k => ?_
    simp only [bakeref2_nat_less.l0]
    rw [if_neg (by omega)]
    simp; omega
  | n + 1, p, q, s, hp, hq, h1, h2 => by
    rcases nil_or_snoc p with e | ⟨p', x, e⟩
    · rw [e] at hp; simp at hp
    rcases nil_or_snoc q with e' | ⟨q', y, e'⟩
    · rw [e'] at hq; simp at hq
    subst e e'
    have hp' : p'.length = n := by simpa using hp
    have hq' : q'.length = n := by simpa using hq
    rw [List.append_assoc] at h1 h2
    have la := dig_len_of a ha
    have lb := dig_len_of b hb
    have m1 := at_mid (l := dig a) (pre := p') (x := x) (suf := s) h1 (by omega)
    have m2 := at_mid (l := dig b) (pre := q') (x := y) (suf := s) h2 (by omega)
    rw [hp'] at m1
    rw [hq'] at m2
    have hi : (((n + 1 : Nat) : Int) - 1) = (n : Int) := by omega
    rw [hi]
    by_cases hxy : x = y
    · subst hxy
      have ih := less_loop a b ha hb n p' q' (x :: s) hp' hq' h1 h2
      refine Ev.step (fun k => ?_) ih
      simp only [bakeref2_nat_less.l0]
      rw [if_pos m1.1, if_pos m1.1, if_pos m1.2.1, if_pos m2.2.1, m1.2.2.1, m2.2.2.1, if_pos rfl, w64 _ (by omega) (by omega)]
    · refine Ev.done fun k => ?_
      simp only [bakeref2_nat_less.l0]
      rw [if_pos m1.1, if_pos m1.1, if_pos m1.2.1, if_pos m2.2.1, m1.2.2.1, m2.2.2.1, if_neg hxy]
      have va := val_dig a
      have vb := val_dig b
      have da := dig_dig a
      have db := dig_dig b
      rw [h1] at va da
      rw [h2] at vb db
      rw [val_append] at va vb
      have b1 := val_bound p' (fun d hd => da d (by simp [hd]))
      have b2 := val_bound q' (fun d hd => db d (by simp [hd]))
      rw [hp'] at va b1
      rw [hq'] at vb b2
      have key := less_num x y (val p') (val q') (10000 ^ n) (val s) (val s) b1.1 b1.2 b2.1 b2.2 rfl hxy
      have e1 : ((a : Nat) : Int) = val p' + 10000 ^ n * (x + 10000 * val s) := va.symm
      have e2 : ((b : Nat) : Int) = val q' + 10000 ^ n * (y + 10000 * val s) := vb.symm
      rw [← e1, ← e2] at key
      congr 1
      apply decide_eq_decide.2
      rw [← key]; exact Int.ofNat_lt
/-- Is a number less than another one, by their digits. -/
theorem less_ev (a b : Nat) (ha : Sm a) (hb : Sm b) : Ev (fun k => bakeref2_nat_less.f k (dig a) (dig b)) (decide (a < b)) := by
  unfold bakeref2_nat_less.f
  have la := dig_len_of a ha
  by_cases h : (dig a).length = (dig b).length
  · refine Ev.pos (by omega) ?_
    have := less_loop a b ha hb (dig a).length (dig a) (dig b) [] rfl h.symm (by simp) (by simp)
    rw [w64 _ (by omega) (by omega)]
    exact this
  · refine Ev.neg (by omega) (Ev.all fun k => ?_)
    congr 1
    apply decide_eq_decide.2
    constructor
    · intro h1; exact dig_lt_of_len (by omega)
    · intro h1
      have := dig_len_mono (Nat.le_of_lt h1)
      omega
theorem trim_ev (n : Nat) : ∀ (m : Nat), n < 10000 ^ m → m < 1000000 → Ev (fun k => bakeref2_nat_plus.l1 k (fix m n)) (dig n)
  | 0, h, hm => by
    have h0 : n = 0 := by simp at h; omega
    subst h0
    refine Ev.done fun k => ?_
    simp only [bakeref2_nat_plus.l1]
    rw [if_neg (by simp [fix]), dig_zero]; rfl
  | m + 1, h, hm => by
    have hl := fix_len (m + 1) n
    have hs := fix_snoc m n
    have ht := fix_top h
    rw [ht] at hs
    have hw : wrap64 (((fix (m + 1) n).length : Int) - 1) = ((fix m n).length : Int) := by rw [hl, fix_len, w64 _ (by omega) (by omega)]; omega
    have a := at_mid (l := fix (m + 1) n) (suf := []) hs (by omega)
    by_cases h0 : n / 10000 ^ m = 0
    · have hn : n < 10000 ^ m := by
        rcases Nat.lt_or_ge n (10000 ^ m) with h1 | h1
        · exact h1
        · have := Nat.div_pos h1 (Nat.pow_pos (by decide)); omega
      refine Ev.step (fun k => ?_) (trim_ev n m hn (by omega))
      simp only [bakeref2_nat_plus.l1]
      rw [hw, if_pos (by omega), if_pos a.1, if_pos a.2.1, a.2.2.1, if_pos (by omega), if_pos (by omega)]
      congr 1
      rw [hs, Int.toNat_natCast]; simp
    · refine Ev.done fun k => ?_
      simp only [bakeref2_nat_plus.l1]
      rw [hw, if_pos (by omega), if_pos a.1, if_pos a.2.1, a.2.2.1, if_neg (by omega)]
      rw [dig_fix m n ?_ h]
      rcases Nat.lt_or_ge n (10000 ^ m) with h1 | h1
      · rw [Nat.div_eq_of_lt h1] at h0; omega
      · exact h1
theorem plus_digit (t : Int) (h0 : -20000 ≤ t) (h1 : t ≤ 20000) : Int.tmod (wrap64 ((Int.tmod t 10000) + 10000)) 10000 = t % 10000 ∧ wrap64 (Int.tdiv (wrap64 (t - t % 10000)) 10000) = t / 10000 := by
  have e1 : Int.tmod t 10000 = t % 10000 ∨ (Int.tmod t 10000 = t % 10000 - 10000 ∧ t % 10000 ≠ 0) := by
    rcases Int.le_total 0 t with h | h
    · left; rw [Int.tmod_eq_emod_of_nonneg h]
    · have e := Int.neg_tmod (-t) 10000
      rw [Int.neg_neg, Int.tmod_eq_emod_of_nonneg (show 0 ≤ -t by omega)] at e
      rw [e]; omega
  constructor
  · rcases e1 with e | ⟨e, _⟩
    · rw [e, w64 _ (by omega) (by omega), Int.tmod_eq_emod_of_nonneg (by omega)]; omega
    · rw [e, w64 _ (by omega) (by omega), Int.tmod_eq_emod_of_nonneg (by omega)]; omega
  · rw [w64 (t - t % 10000) (by omega) (by omega)]
    have e2 : t - t % 10000 = (t / 10000) * 10000 := by omega
    rw [e2, Int.mul_tdiv_cancel _ (by decide), w64 _ (by omega) (by omega)]
theorem plus_num (c A B s : Int) (i : Nat) (T : Nat) (h : ((T / 10000 ^ i : Nat) : Int) = c + A + s * B) : (c + A % 10000 + s * (B % 10000)) % 10000 = ((T / 10000 ^ i % 10000 : Nat) : Int) ∧ ((T / 10000 ^ (i + 1) : Nat) : Int) = (c + A % 10000 + s * (B % 10000)) / 10000 + A / 10000 + s * (B / 10000) := by
  rw [Nat.pow_succ, ← Nat.div_div_eq_div_mul]
  generalize T / 10000 ^ i = Ti at h ⊢
  have hB : s * B = s * (B % 10000) + 10000 * (s * (B / 10000)) := by
    have : s * B = s * (B % 10000 + 10000 * (B / 10000)) := by rw [Int.emod_add_mul_ediv]
    rw [this, Int.mul_add, Int.mul_left_comm]
  rw [hB] at h
  generalize s * (B % 10000) = u at h ⊢
  generalize s * (B / 10000) = v at h ⊢
  omega
structure Hid (p : Prop) : Prop where
  out : p
theorem plus_carry (c u sv : Int) (h0 : -1 ≤ c) (h1 : c ≤ 1) (u0 : 0 ≤ u) (u1 : u < 10000) (v0 : -9999 ≤ sv) (v1 : sv ≤ 9999) : -1 ≤ (c + u + sv) / 10000 ∧ (c + u + sv) / 10000 ≤ 1 := by
  have h2 : -10000 ≤ c + u + sv := by omega
  have h3 : c + u + sv ≤ 19999 := by omega
  omega
theorem plus_step (A B : List Int) (s c u v sv : Int) (i n : Nat) (out : List Int) (hi : (i : Int) < (n : Int)) (hlo : out.length = i) (hn : n < 1000) (ra : Hid (i < A.length → rd A (i : Int) = u)) (ha0 : Hid (¬ i < A.length → u = 0)) (rb : Hid (i < B.length → rd B (i : Int) = v)) (hb0 : Hid (¬ i < B.length → sv = 0)) (hv : Hid (s * v = sv))
    (h0 : -1 ≤ c) (h1 : c ≤ 1) (u0 : 0 ≤ u) (u1 : u < 10000) (v0 : -9999 ≤ sv) (v1 : sv ≤ 9999) :
    ∀ k, bakeref2_nat_plus.l0 (k + 1) A B s out c (n : Int) (i : Int) = bakeref2_nat_plus.l0 k A B s (out ++ [(c + u + sv) % 10000]) ((c + u + sv) / 10000) (n : Int) ((i + 1 : Nat) : Int) := by
  intro k
  obtain ⟨d1, d2⟩ := plus_digit (c + u + sv) (by omega) (by omega)
  have hi1 : wrap64 ((i : Int) + 1) = ((i + 1 : Nat) : Int) := by rw [w64 _ (by omega) (by omega)]; rfl
  simp only [bakeref2_nat_plus.l0]
  rw [if_pos hi]
  by_cases ca : i < A.length
  · rw [if_pos (by omega), if_pos (by omega), ra.out ca, w64 (c + u) (by omega) (by omega)]
    by_cases cb : i < B.length
    · rw [if_pos (by omega), if_pos (by omega), rb.out cb, hv.out, w64 sv (by omega) (by omega), w64 (c + u + sv) (by omega) (by omega), d1, d2, hi1]
    · rw [if_neg (by omega), if_pos (by omega), hi1]
      have e : c + u + sv = c + u := by rw [hb0.out cb]; omega
      rw [e] at d1 d2 ⊢
      rw [d1, d2]
  · rw [if_neg (by omega)]
    by_cases cb : i < B.length
    · rw [if_pos (by omega), if_pos (by omega), if_pos (by omega), rb.out cb, hv.out, w64 sv (by omega) (by omega), hi1]
      have e : c + u + sv = c + sv := by rw [ha0.out ca]; omega
      rw [e] at d1 d2 ⊢
      rw [w64 (c + sv) (by omega) (by omega), d1, d2]
    · rw [if_neg (by omega), if_pos (by omega), hi1]
      have e : c + u + sv = c := by rw [ha0.out ca, hb0.out cb]; omega
      rw [e] at d1 d2 ⊢
      rw [d1, d2]
theorem plus_loop (a b T : Nat) (s : Int) (hs : s = 1 ∨ s = -1) (hT : (T : Int) = a + s * b) (ha : Sm a) (hb : Sm b) (mx_ : Nat) (hma : (dig a).length ≤ mx_) (hmb : (dig b).length ≤ mx_) (hmx : mx_ < 1000) : ∀ (m i : Nat) (c : Int), i + m = mx_ → -1 ≤ c → c ≤ 1 → ((T / 10000 ^ i : Nat) : Int) = c + ((a / 10000 ^ i : Nat) : Int) + s * ((b / 10000 ^ i : Nat) : Int) →
    Ev (fun k => bakeref2_nat_plus.l0 k (dig a) (dig b) s (fix i T) c (mx_ : Int) (i : Int)) (dig T)
  | 0, i, c, hi, h0, h1, h => by
    have ea : a / 10000 ^ i = 0 := by
      rcases Nat.eq_zero_or_pos (a / 10000 ^ i) with h' | h'
      · exact h'
      · have := (dig_len_iff a i).2 h'; omega
    have eb : b / 10000 ^ i = 0 := by
      rcases Nat.eq_zero_or_pos (b / 10000 ^ i) with h' | h'
      · exact h'
      · have := (dig_len_iff b i).2 h'; omega
    rw [ea, eb] at h
    have hc : ((T / 10000 ^ i : Nat) : Int) = c := by rw [h]; simp
    have hl := fix_len i T
    by_cases hc0 : c > 0
    · have hc1 : T / 10000 ^ i = 1 := by omega
      have hlt : T < 10000 ^ (i + 1) := by
        rw [Nat.pow_succ]
        have := (Nat.div_lt_iff_lt_mul (x := T) (y := 10000) (k := 10000 ^ i) (Nat.pow_pos (by decide))).1 (by omega)
        rw [Nat.mul_comm]; exact this
      have := trim_ev T (i + 1) hlt (by omega)
      rw [fix_snoc, fix_top hlt, hc] at this
      refine Ev.step (f := fun k => bakeref2_nat_plus.j1 k (fix i T ++ [c])) (fun k => ?_) (Ev.step (fun k => by simp only [bakeref2_nat_plus.j1]) this)
      simp only [bakeref2_nat_plus.l0]
      rw [if_neg (by omega), if_pos hc0, if_pos (by omega)]
    · have hlt : T < 10000 ^ i := by
        rcases Nat.lt_or_ge T (10000 ^ i) with h1 | h1
        · exact h1
        · have := Nat.div_pos h1 (Nat.pow_pos (by decide)); omega
      refine Ev.step (f := fun k => bakeref2_nat_plus.j1 k (fix i T)) (fun k => ?_) (Ev.step (fun k => by simp only [bakeref2_nat_plus.j1]) (trim_ev T i hlt (by omega)))
      simp only [bakeref2_nat_plus.l0]
      rw [if_neg (by omega), if_neg hc0]
  | m + 1, i, c, hi, h0, h1, h => by
    obtain ⟨n1, n2⟩ := plus_num c _ _ s i T h
    have hl := fix_len i T
    have ea : ((a / 10000 ^ i : Nat) : Int) / 10000 = ((a / 10000 ^ (i + 1) : Nat) : Int) := by rw [Nat.pow_succ, ← Nat.div_div_eq_div_mul]; rfl
    have eb : ((b / 10000 ^ i : Nat) : Int) / 10000 = ((b / 10000 ^ (i + 1) : Nat) : Int) := by rw [Nat.pow_succ, ← Nat.div_div_eq_div_mul]; rfl
    rw [ea, eb] at n2
    have da : 0 ≤ ((a / 10000 ^ i : Nat) : Int) % 10000 ∧ ((a / 10000 ^ i : Nat) : Int) % 10000 < 10000 := by omega
    have db : 0 ≤ ((b / 10000 ^ i : Nat) : Int) % 10000 ∧ ((b / 10000 ^ i : Nat) : Int) % 10000 < 10000 := by omega
    have hb2 : -10000 ≤ s * (((b / 10000 ^ i : Nat) : Int) % 10000) ∧ s * (((b / 10000 ^ i : Nat) : Int) % 10000) ≤ 9999 ∧ s * (((b / 10000 ^ i : Nat) : Int) % 10000) ≥ -9999 := by
      rcases hs with rfl | rfl <;> omega
    have ha0 : ¬ i < (dig a).length → ((a / 10000 ^ i : Nat) : Int) % 10000 = 0 := by
      intro hn
      have : a / 10000 ^ i = 0 := by
        rcases Nat.eq_zero_or_pos (a / 10000 ^ i) with h' | h'
        · exact h'
        · exact absurd ((dig_len_iff a i).2 h') hn
      rw [this]; rfl
    have hb0 : ¬ i < (dig b).length → s * (((b / 10000 ^ i : Nat) : Int) % 10000) = 0 := by
      intro hn
      have : b / 10000 ^ i = 0 := by
        rcases Nat.eq_zero_or_pos (b / 10000 ^ i) with h' | h'
        · exact h'
        · exact absurd ((dig_len_iff b i).2 h') hn
      rw [this]; simp
    have ra : i < (dig a).length → rd (dig a) (i : Int) = ((a / 10000 ^ i : Nat) : Int) % 10000 := fun hn => by rw [dig_rd a i hn]; rfl
    have rb : i < (dig b).length → rd (dig b) (i : Int) = ((b / 10000 ^ i : Nat) : Int) % 10000 := fun hn => by rw [dig_rd b i hn]; rfl
    have hi1 : (i : Int) < (mx_ : Int) := by omega
    have hlen : (fix i T).length = i := hl
    have hS := plus_step (dig a) (dig b) s c (((a / 10000 ^ i : Nat) : Int) % 10000) (((b / 10000 ^ i : Nat) : Int) % 10000) (s * (((b / 10000 ^ i : Nat) : Int) % 10000)) i mx_ (fix i T) hi1 hlen hmx ⟨ra⟩ ⟨ha0⟩ ⟨rb⟩ ⟨hb0⟩ ⟨rfl⟩ h0 h1 da.1 da.2 hb2.2.2 hb2.2.1
    have hb3 := plus_carry c (((a / 10000 ^ i : Nat) : Int) % 10000) (s * (((b / 10000 ^ i : Nat) : Int) % 10000)) h0 h1 da.1 da.2 hb2.2.2 hb2.2.1
    have ih := plus_loop a b T s hs hT ha hb mx_ hma hmb hmx m (i + 1) ((c + ((a / 10000 ^ i : Nat) : Int) % 10000 + s * (((b / 10000 ^ i : Nat) : Int) % 10000)) / 10000) (by omega) hb3.1 hb3.2 n2
    rw [fix_snoc, ← n1] at ih
    exact Ev.step hS ih
/-- A number plus or minus another one, by their digits. -/
theorem plus_ev (a b T : Nat) (s : Int) (hs : s = 1 ∨ s = -1) (hT : (T : Int) = a + s * b) (ha : Sm a) (hb : Sm b) : Ev (fun k => bakeref2_nat_plus.f k (dig a) (dig b) s) (dig T) := by
  unfold bakeref2_nat_plus.f
  have la := dig_len_of a ha
  have lb := dig_len_of b hb
  have e : mx ((dig a).length : Int) ((dig b).length : Int) = ((max (dig a).length (dig b).length : Nat) : Int) := by unfold mx; split <;> omega
  rw [e]
  exact plus_loop a b T s hs hT ha hb _ (Nat.le_max_left _ _) (Nat.le_max_right _ _) (by omega) (max (dig a).length (dig b).length) 0 0 (by omega) (by omega) (by omega) (by simp [hT])
theorem shl1 (t : Nat) (ht : t ≤ 62) : shl .i64 1 (t : Int) = ((2 ^ t : Nat) : Int) := by
  unfold shl
  rw [Int.one_mul, Int.toNat_natCast, Nat.min_eq_left (by simp only [IntKind.bits]; omega)]
  have h2 : (2 : Nat) ^ t ≤ 2 ^ 62 := Nat.pow_le_pow_right (by decide) ht
  have e : (2 : Int) ^ t = ((2 ^ t : Nat) : Int) := by simp
  rw [e]
  generalize (2 : Nat) ^ t = z at h2 ⊢
  exact wrap_i64_of _ (by omega) (by omega)
theorem or_step (h t : Nat) (hh : h * 2 ^ (t + 1) + 2 ^ t < 9223372036854775808) : Go.bits .or .i64 ((h * 2 ^ (t + 1) : Nat) : Int) ((2 ^ t : Nat) : Int) = (((2 * h + 1) * 2 ^ t : Nat) : Int) := by
  rw [or64 _ _ (Nat.lt_of_le_of_lt (Nat.le_add_right _ _) hh) (Nat.lt_of_le_of_lt (Nat.le_add_left _ _) hh)]
  congr 1
  have hlt : 2 ^ t < 2 ^ (t + 1) := Nat.pow_lt_pow_right (by decide) (by omega)
  rw [Nat.mul_comm h, ← Nat.two_pow_add_eq_or_of_lt hlt]
  rw [Nat.add_mul, Nat.one_mul, Nat.pow_succ]
  congr 1
  rw [Nat.mul_assoc, Nat.mul_comm (2 ^ t), Nat.mul_comm 2 h]
theorem quot_num (u t : Nat) : (u < (2 * (u / 2 ^ (t + 1)) + 1) * 2 ^ t → u / 2 ^ t * 2 ^ t = u / 2 ^ (t + 1) * 2 ^ (t + 1)) ∧ (¬ u < (2 * (u / 2 ^ (t + 1)) + 1) * 2 ^ t → u / 2 ^ t * 2 ^ t = (2 * (u / 2 ^ (t + 1)) + 1) * 2 ^ t) := by
  have hp : 0 < 2 ^ t := Nat.pow_pos (by decide)
  rw [← Nat.div_lt_iff_lt_mul hp]
  have e : u / 2 ^ (t + 1) = u / 2 ^ t / 2 := by rw [Nat.pow_succ, Nat.div_div_eq_div_mul]
  rw [e]
  have e2 : 2 ^ (t + 1) = 2 * 2 ^ t := by rw [Nat.pow_succ, Nat.mul_comm]
  rw [e2, ← Nat.mul_assoc]
  generalize u / 2 ^ t = v
  constructor
  · intro h
    have : v = v / 2 * 2 := by omega
    rw [← this]
  · intro h
    have : v = 2 * (v / 2) + 1 := by omega
    rw [← this]
theorem quot_loop (N D : Nat) (hD : 0 < D) (hq : N / D < 68719476736) (h0 : 0 < N / D) (hN : Sm N) (hD2 : Sm (D * 137438953472)) : ∀ (t : Nat), t ≤ 36 → Ev (fun k => bakeref2_nat_quot.l0 k (dig N) (dig D) ((N / D / 2 ^ t * 2 ^ t : Nat) : Int) ((t : Int) - 1)) (((N / D : Nat) : Int), dig (N % D))
  | 0, ht => by
    rw [Nat.pow_zero, Nat.mul_one, Nat.div_one]
    have hle : D * (N / D) ≤ N := Nat.mul_div_le N D
    have hm : N / D * D ≤ N := by rw [Nat.mul_comm]; exact hle
    have hDs : Sm D := sm_of (by omega) hD2
    have h1 := times_ev D (N / D) h0 (by omega) hDs (sm_of hm hN)
    have h2 := plus_ev N (N / D * D) (N % D) (-1) (.inr rfl) (by have := Nat.div_add_mod N D; rw [Nat.mul_comm] at this; omega) hN (sm_of hm hN)
    refine Ev.step (fun k => ?_) (Ev.bind (f := fun k t149 => (bakeref2_nat_plus.f k (dig N) t149 (-1)).bind fun t152 => some (((N / D : Nat) : Int), t152)) h1 (Ev.bind h2 (Ev.all fun k => rfl)))
    simp only [bakeref2_nat_quot.l0]
    rw [if_neg (by omega)]
  | t + 1, ht => by
    obtain ⟨q1, q2⟩ := quot_num (N / D) t
    have ih := quot_loop N D hD hq h0 hN hD2 t (by omega)
    have hDs : Sm D := sm_of (by omega) hD2
    have hp : 0 < 2 ^ t := Nat.pow_pos (by decide)
    have hp36 : 2 ^ t ≤ 2 ^ 35 := Nat.pow_le_pow_right (by decide) (by omega)
    have hu : N / D / 2 ^ (t + 1) * 2 ^ (t + 1) ≤ N / D := Nat.div_mul_le_self _ _
    have hnx : N / D / 2 ^ (t + 1) * 2 ^ (t + 1) + 2 ^ t < 137438953472 := by
      have : (2 : Nat) ^ 35 = 34359738368 := by decide
      omega
    have ho := or_step (N / D / 2 ^ (t + 1)) t (by omega)
    have hn1 : (2 * (N / D / 2 ^ (t + 1)) + 1) * 2 ^ t = N / D / 2 ^ (t + 1) * 2 ^ (t + 1) + 2 ^ t := by
      rw [Nat.add_mul, Nat.one_mul, Nat.pow_succ]
      congr 1
      rw [Nat.mul_comm 2, Nat.mul_assoc, Nat.mul_comm 2]
    have hnp : 0 < (2 * (N / D / 2 ^ (t + 1)) + 1) * 2 ^ t := by rw [hn1]; omega
    have hnl : (2 * (N / D / 2 ^ (t + 1)) + 1) * 2 ^ t ≤ 137438953472 := by rw [hn1]; omega
    generalize hnx' : (2 * (N / D / 2 ^ (t + 1)) + 1) * 2 ^ t = nx at *
    have h1 := times_ev D nx hnp (by omega) hDs (sm_of (by rw [Nat.mul_comm]; exact Nat.mul_le_mul_left _ hnl) hD2)
    have h2 := less_ev N (nx * D) hN (sm_of (by rw [Nat.mul_comm]; exact Nat.mul_le_mul_left _ hnl) hD2)
    have hi : (((t + 1 : Nat) : Int) - 1) = (t : Int) := by omega
    have hw : wrap64 ((t : Int) - 1) = (t : Int) - 1 := w64 _ (by omega) (by omega)
    rw [hi]
    have hs := shl1 t (by omega)
    have hiff : N < nx * D ↔ N / D < nx := (Nat.div_lt_iff_lt_mul hD).symm
    by_cases hc : N / D < nx
    · have e := q1 hc
      rw [e] at ih
      refine Ev.step (f := fun k => (bakeref2_nat_times.f k (dig D) (nx : Int)).bind fun t155 => (bakeref2_nat_less.f k (dig N) t155).bind fun t158 => if t158 = true then bakeref2_nat_quot.l0 k (dig N) (dig D) ((N / D / 2 ^ (t + 1) * 2 ^ (t + 1) : Nat) : Int) ((t : Int) - 1) else bakeref2_nat_quot.l0 k (dig N) (dig D) (nx : Int) ((t : Int) - 1)) (fun k => ?_) (Ev.bind h1 (Ev.bind h2 ?_))
      · simp only [bakeref2_nat_quot.l0]
        rw [if_pos (by omega), if_pos (by omega), hs, ho, hw]
      · refine Ev.pos ?_ ih
        rw [decide_eq_true_iff]; exact hiff.2 hc
    · have e := q2 hc
      rw [e] at ih
      refine Ev.step (f := fun k => (bakeref2_nat_times.f k (dig D) (nx : Int)).bind fun t155 => (bakeref2_nat_less.f k (dig N) t155).bind fun t158 => if t158 = true then bakeref2_nat_quot.l0 k (dig N) (dig D) ((N / D / 2 ^ (t + 1) * 2 ^ (t + 1) : Nat) : Int) ((t : Int) - 1) else bakeref2_nat_quot.l0 k (dig N) (dig D) (nx : Int) ((t : Int) - 1)) (fun k => ?_) (Ev.bind h1 (Ev.bind h2 ?_))
      · simp only [bakeref2_nat_quot.l0]
        rw [if_pos (by omega), if_pos (by omega), hs, ho, hw]
      · refine Ev.neg ?_ ih
        rw [decide_eq_true_iff]; exact fun h => hc (hiff.1 h)
/-- The quotient below 2^36 and the rest, by the digits. -/
theorem quot_ev (N D : Nat) (hD : 0 < D) (hq : N / D < 68719476736) (h0 : 0 < N / D) (hN : Sm N) (hD2 : Sm (D * 137438953472)) : Ev (fun k => bakeref2_nat_quot.f k (dig N) (dig D)) (((N / D : Nat) : Int), dig (N % D)) := by
  unfold bakeref2_nat_quot.f
  have h := quot_loop N D hD hq h0 hN hD2 36 (Nat.le_refl _)
  rw [Nat.div_eq_of_lt (by simpa using hq), Nat.zero_mul] at h
  exact h
theorem times_evI (a b : Nat) (c : Int) (hc : c = ((b : Nat) : Int)) (hb : 0 < b) (hb' : b ≤ 1099511627776) (ha : Sm a) (hab : Sm (b * a)) : Ev (fun k => bakeref2_nat_times.f k (dig a) c) (dig (b * a)) := by subst hc; exact times_ev a b hb hb' ha hab
/-- The bytes of a rounded number: its exponent, its mantissa. -/
def pk (neg : Bool) (e m : Int) : Int × Int × Int × Int × Int × Int :=
  if e + 160 > 255 then (0, 0, 0, 0, 0, 21) else if e + 160 < 1 then (0, 0, 0, 0, 0, 0)
  else ((e + 160) % 256, (if neg = true then m else m - 2147483648) / 16777216 % 256, (if neg = true then m else m - 2147483648) / 65536 % 256, (if neg = true then m else m - 2147483648) / 256 % 256, (if neg = true then m else m - 2147483648) % 256, 0)
def rnd (neg : Bool) (e : Int) (q : Nat) (up : Bool) : Int × Int × Int × Int × Int × Int :=
  if up = true then (if q + 1 = 4294967296 then pk neg (e + 1) 2147483648 else pk neg e ((q + 1 : Nat) : Int)) else pk neg e (q : Int)
def upB (x y q : Nat) : Bool := if y < x then true else if x < y then false else (q % 2 == 1)
theorem near_j4 (neg : Bool) (e m : Int) (he : -100000 ≤ e ∧ e ≤ 100000) (hm : 0 ≤ m ∧ m ≤ 4294967296) : Ev (fun k => bakeref2_nearest.j4 k neg e m) (pk neg e m) := by
  refine Ev.done fun k => ?_
  simp only [bakeref2_nearest.j4]
  rw [w64 (e + 160) (by omega) (by omega), w64 (m - 2147483648) (by omega) (by omega), w64 (m - 2147483648 + 2147483648) (by omega) (by omega), Int.sub_add_cancel]
  unfold pk
  by_cases h1 : e + 160 > 255
  · rw [if_pos h1, if_pos h1]
  · rw [if_neg h1, if_neg h1]
    by_cases h2 : e + 160 < 1
    · rw [if_pos h2, if_pos h2]
    · rw [if_neg h2, if_neg h2]
      by_cases h3 : neg = true
      · simp only [h3, if_true]
      · simp only [h3]; rfl
theorem near_j3 (neg : Bool) (e : Int) (q : Nat) (he : -99999 ≤ e ∧ e ≤ 99999) (hq : q ≤ 4294967296) : Ev (fun k => bakeref2_nearest.j3 k neg e (q : Int)) (if q = 4294967296 then pk neg (e + 1) 2147483648 else pk neg e (q : Int)) := by
  by_cases h : q = 4294967296
  · rw [if_pos h]
    refine Ev.step (fun k => ?_) (near_j4 neg (e + 1) 2147483648 (by omega) (by omega))
    simp only [bakeref2_nearest.j3]
    have hz : wrap64 (Int.tdiv (((4294967296 : Nat)) : Int) 2) = 2147483648 := by
      rw [show (2 : Int) = ((2 : Nat) : Int) from rfl, tdiv_nat, w64 _ (by omega) (by omega)]; omega
    rw [if_pos (by omega), w64 (e + 1) (by omega) (by omega), h, hz]
  · rw [if_neg h]
    refine Ev.step (fun k => ?_) (near_j4 neg e (q : Int) (by omega) (by omega))
    simp only [bakeref2_nearest.j3]
    rw [if_neg (by omega)]
theorem near_j2 (neg : Bool) (e : Int) (q : Nat) (up : Bool) (he : -99999 ≤ e ∧ e ≤ 99999) (hq : q < 4294967296) : Ev (fun k => bakeref2_nearest.j2 k neg e (q : Int) up) (rnd neg e q up) := by
  unfold rnd
  by_cases h : up = true
  · rw [if_pos h]
    refine Ev.step (fun k => ?_) (near_j3 neg e (q + 1) he (by omega))
    simp only [bakeref2_nearest.j2]
    rw [if_pos h, w64 _ (by omega) (by omega)]; rfl
  · rw [if_neg h]
    have h3 := near_j3 neg e q he (by omega)
    rw [if_neg (by omega)] at h3
    refine Ev.step (fun k => ?_) h3
    simp only [bakeref2_nearest.j2]
    rw [if_neg h]
theorem near_hi {N M q R c : Nat} (h : N = q * M + R) (hR : R < M) (hq : q < c) : N < c * M := by
  have h1 : (q + 1) * M ≤ c * M := Nat.mul_le_mul_right _ hq
  rw [Nat.add_mul, Nat.one_mul] at h1
  omega
theorem near_lo {N M q R c : Nat} (h : N = q * M + R) (hq : c ≤ q) : c * M ≤ N := by
  have h1 : c * M ≤ q * M := Nat.mul_le_mul_right _ hq
  omega
theorem near_l1 (neg : Bool) (N q R : Nat) (hq0 : 2147483648 ≤ q) (hq1 : q < 4294967296) : ∀ (j D : Nat) (e : Int), 0 < D → N = q * (D * 2 ^ j) + R → R < D * 2 ^ j → Sm (D * 2 ^ j * 137438953472) → -50000 ≤ e → e + j ≤ 50000 →
    Ev (fun k => bakeref2_nearest.l1 k neg (dig N) (dig D) e) (rnd neg (e + j) q (upB (2 * R) (D * 2 ^ j) q)) := by
  intro j
  induction j with
  | zero =>
    intro D e hD hN hR hsm e0 e1
    rw [Nat.pow_zero, Nat.mul_one] at hN hR hsm ⊢
    have hlt := near_hi hN hR hq1
    have hdiv : N / D = q := by rw [hN, Nat.mul_comm, Nat.mul_add_div hD, Nat.div_eq_of_lt hR, Nat.add_zero]
    have hmod : N % D = R := by rw [hN, Nat.mul_comm, Nat.mul_add_mod, Nat.mod_eq_of_lt hR]
    have sD : Sm D := sm_of (by omega) hsm
    have sD32 : Sm (4294967296 * D) := sm_of (by omega) hsm
    have sN : Sm N := sm_of (by omega) hsm
    have t1 := times_evI D 4294967296 4294967296 rfl (by omega) (by omega) sD sD32
    have t2 := less_ev N (4294967296 * D) sN sD32
    have t3 := quot_ev N D hD (by omega) (by omega) sN hsm
    rw [hdiv, hmod] at t3
    have sR : Sm R := sm_of (by omega) sD
    have sR2 : Sm (2 * R) := sm_of (by omega) sD32
    have t4 := times_evI R 2 2 rfl (by omega) (by omega) sR sR2
    have t5 := less_ev D (2 * R) sD sR2
    have t6 := less_ev (2 * R) D sR2 sD
    refine Ev.step (fun k => bakeref2_nearest.l1.eq_2 _ _ _ _ k) (Ev.bind t1 (Ev.bind t2 (Ev.pos (decide_eq_true hlt) (Ev.bind t3 (Ev.bind t4 (Ev.bind t5 ?_))))))
    have he : e + ((0 : Nat) : Int) = e := by omega
    rw [he]
    unfold upB
    by_cases h1 : D < 2 * R
    · rw [if_pos h1]
      exact Ev.pos (decide_eq_true h1) (near_j2 neg e q true (by omega) hq1)
    · rw [if_neg h1]
      refine Ev.neg (by rw [decide_eq_true_iff]; exact h1) (Ev.bind t6 ?_)
      by_cases h2 : 2 * R < D
      · rw [if_pos h2]
        exact Ev.pos (decide_eq_true h2) (near_j2 neg e q false (by omega) hq1)
      · rw [if_neg h2]
        refine Ev.neg (by rw [decide_eq_true_iff]; exact h2) ?_
        have hb : (Int.tmod (q : Int) 2 == 1) = (q % 2 == 1) := by
          rw [show (2 : Int) = ((2 : Nat) : Int) from rfl, tmod_nat, Bool.eq_iff_iff, beq_iff_eq, beq_iff_eq]; omega
        have := near_j2 neg e q (q % 2 == 1) (by omega) hq1
        rw [← hb] at this ⊢
        exact this
  | succ j ih_ =>
    intro D e hD hN hR hsm e0 e1
    have hM : D * 2 ^ (j + 1) = 2 * D * 2 ^ j := by rw [Nat.pow_succ, Nat.mul_comm (2 ^ j), ← Nat.mul_assoc, Nat.mul_comm D]
    rw [hM] at hN hR hsm ⊢
    have hp : 0 < 2 ^ j := Nat.pow_pos (by decide)
    have h2D : 2 * D ≤ 2 * D * 2 ^ j := Nat.le_mul_of_pos_right _ hp
    have hge := near_lo hN hq0
    have hlt := near_hi hN hR hq1
    have sN : Sm N := sm_of (by omega) hsm
    have sD : Sm D := sm_of (by omega) hsm
    have sD2 : Sm (2 * D) := sm_of (by omega) hsm
    have sD32 : Sm (4294967296 * D) := sm_of (by omega) hsm
    have t1 := times_evI D 4294967296 4294967296 rfl (by omega) (by omega) sD sD32
    have t2 := less_ev N (4294967296 * D) sN sD32
    have t3 := times_evI D 2 2 rfl (by omega) (by omega) sD sD2
    have ih := ih_ (2 * D) (e + 1) (by omega) hN hR hsm (by omega) (by omega)
    have he : e + 1 + (j : Int) = e + ((j + 1 : Nat) : Int) := by omega
    rw [he] at ih
    have hw : wrap64 (e + 1) = e + 1 := w64 _ (by omega) (by omega)
    rw [← hw] at ih
    have hn : ¬ N < 4294967296 * D := by omega
    exact Ev.step (fun k => bakeref2_nearest.l1.eq_2 _ _ _ _ k) (Ev.bind t1 (Ev.bind t2 (Ev.neg (by rw [decide_eq_true_iff]; exact hn) (Ev.bind t3 ih))))
theorem near_l0 (neg : Bool) (D q R j : Nat) (hD : 0 < D) (hq0 : 2147483648 ≤ q) (hq1 : q < 4294967296) : ∀ (i N : Nat) (e : Int), 0 < N → (i = 0 ∨ j = 0) → N * 2 ^ i = q * (D * 2 ^ j) + R → R < D * 2 ^ j → Sm (D * 2 ^ j * 137438953472) → -40000 ≤ e - i → e + j ≤ 50000 →
    Ev (fun k => bakeref2_nearest.l0 k neg (dig N) (dig D) e) (rnd neg (e - i + j) q (upB (2 * R) (D * 2 ^ j) q)) := by
  intro i
  induction i with
  | zero =>
    intro N e hN0 hij hN hR hsm e0 e1
    rw [Nat.pow_zero, Nat.mul_one] at hN
    have hp : 0 < 2 ^ j := Nat.pow_pos (by decide)
    have hDM : D ≤ D * 2 ^ j := Nat.le_mul_of_pos_right _ hp
    have hge := near_lo hN hq0
    have hlt := near_hi hN hR hq1
    have sN : Sm N := sm_of (by omega) hsm
    have sD : Sm D := sm_of (by omega) hsm
    have sD31 : Sm (2147483648 * D) := sm_of (by omega) hsm
    have t1 := times_evI D 2147483648 2147483648 rfl (by omega) (by omega) sD sD31
    have t2 := less_ev N (2147483648 * D) sN sD31
    have hn : ¬ N < 2147483648 * D := by omega
    have he : e - ((0 : Nat) : Int) = e := by omega
    rw [he]
    exact Ev.step (fun k => bakeref2_nearest.l0.eq_2 _ _ _ _ k) (Ev.bind t1 (Ev.bind t2 (Ev.neg (by rw [decide_eq_true_iff]; exact hn) (near_l1 neg N q R hq0 hq1 j D e hD hN hR hsm (by omega) e1))))
  | succ i ih_ =>
    intro N e hN0 hij hN hR hsm e0 e1
    have hj : j = 0 := by omega
    have hM : D * 2 ^ j = D := by rw [hj]; simp
    have hM2 : N * 2 ^ (i + 1) = 2 * N * 2 ^ i := by rw [Nat.pow_succ, Nat.mul_comm (2 ^ i), ← Nat.mul_assoc, Nat.mul_comm N]
    have hp : 0 < 2 ^ i := Nat.pow_pos (by decide)
    rw [hM2] at hN
    have hle : 2 * N ≤ 2 * N * 2 ^ i := Nat.le_mul_of_pos_right _ hp
    have hlt := near_hi hN hR hq1
    rw [hM] at hlt
    have hsm' := hsm
    rw [hM] at hsm'
    have sN2 : Sm (2 * N) := sm_of (by omega) hsm'
    have sN : Sm N := sm_of (by omega) sN2
    have sD : Sm D := sm_of (by omega) hsm'
    have sD31 : Sm (2147483648 * D) := sm_of (by omega) hsm'
    have t1 := times_evI D 2147483648 2147483648 rfl (by omega) (by omega) sD sD31
    have t2 := less_ev N (2147483648 * D) sN sD31
    have t3 := times_evI N 2 2 rfl (by omega) (by omega) sN sN2
    have hn : N < 2147483648 * D := by omega
    have ih := ih_ (2 * N) (e - 1) (by omega) (.inr hj) hN hR hsm (by omega) (by omega)
    have he : e - 1 - (i : Int) = e - ((i + 1 : Nat) : Int) := by omega
    have hw : wrap64 (e - 1) = e - 1 := w64 _ (by omega) (by omega)
    rw [he, ← hw] at ih
    exact Ev.step (fun k => bakeref2_nearest.l0.eq_2 _ _ _ _ k) (Ev.bind t1 (Ev.bind t2 (Ev.pos (decide_eq_true hn) (Ev.bind t3 ih))))
/-- The nearest number to N / D * 2^e. -/
theorem nearest_ev (neg : Bool) (N D i j q R : Nat) (e : Int) (hN : 0 < N) (hD : 0 < D) (hij : i = 0 ∨ j = 0) (h : N * 2 ^ i = q * (D * 2 ^ j) + R) (hR : R < D * 2 ^ j) (hq0 : 2147483648 ≤ q) (hq1 : q < 4294967296) (hsm : Sm (D * 2 ^ j * 137438953472)) (e0 : -40000 ≤ e - i) (e1 : e + j ≤ 50000) :
    Ev (fun k => bakeref2_nearest.f k neg (dig N) (dig D) e) (rnd neg (e - i + j) q (upB (2 * R) (D * 2 ^ j) q)) := by
  unfold bakeref2_nearest.f
  exact near_l0 neg D q R j hD hq0 hq1 i N e hN hij h hR hsm e0 e1
end Go.Proofs.Ytmedmifkeliepaa.BkFiveMuls
