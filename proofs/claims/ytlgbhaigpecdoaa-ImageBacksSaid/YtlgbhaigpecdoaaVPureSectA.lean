/- Sectors: sums, seals, gaps, checks. -/
import Derived.Test.YtlgbhaigpecdoaaVFnSectA
import Derived.Test.YtlgbhaigpecdoaaVPureMfmL
import Derived.Test.YtlgbhaigpecdoaaVCrc
import Derived.KernelRfl
set_option linter.unusedVariables false
set_option linter.unusedSimpArgs false
namespace Go.Proofs.Ytlgbhaigpecdoaa.V
open Go
abbrev Sec := Int × (Int × (List Int × (Bool × Unit)))
theorem pN_succ : ∀ (n x : Nat), pN (n + 1) x = tN (pN n x) false
  | 0, x => rfl
  | n + 1, x => by
    show pN (n + 1) (tN x false) = tN (pN n (tN x false)) false
    exact pN_succ n (tN x false)
theorem round_p (x : Nat) (hx : x < 65536) : (if IntKind.i64.wrap ((x : Int) * 2) > 65535 then bitop .i64 .xor (IntKind.i64.wrap ((x : Int) * 2)) 69665 else IntKind.i64.wrap ((x : Int) * 2)) = ((tN x false : Nat) : Int) := by
  have w : IntKind.i64.wrap ((x : Int) * 2) = ((2 * x : Nat) : Int) := by rw [wi (by omega) (by omega)]; omega
  rw [w]
  unfold tN
  by_cases h : 32768 ≤ x
  · rw [if_pos (by omega), show (69665 : Int) = ((69665 : Nat) : Int) from rfl, xor64 _ _ (by omega) (by omega)]
    have e : x / 32768 = 1 := by omega
    rw [e]
    simp only [Nat.one_mod, decide_true, Bool.true_bne, Bool.not_false, if_true]
    congr 1
    have d : (2 * x ^^^ 69665) / 65536 = 0 := by
      rw [show (65536 : Nat) = 2 ^ 16 from rfl, Nat.xor_div_two_pow, show 2 * x / 2 ^ 16 = 1 by omega]; rfl
    have m : (2 * x ^^^ 69665) % 65536 = (2 * x % 65536) ^^^ 4129 := by
      rw [show (65536 : Nat) = 2 ^ 16 from rfl, Nat.xor_mod_two_pow]
    omega
  · rw [if_neg (by omega)]
    have e : x / 32768 = 0 := by omega
    rw [e]
    simp only [Nat.zero_mod, bne_self_eq_false, Bool.false_eq_true, if_false]
    simp
    omega
theorem next157 (s : Nat) (c : Int) (hs : s < 65536) (hc : 0 ≤ c ∧ c < 256) : f157 (s : Int) c = some ((((nx s c.toNat : Nat) : Int), ()), ()) := by
  unfold f157 f157_k
  simp only
  rw [mask64 _ 16 (by decide) 65535 (by decide)]
  have e0 : (s : Int) % 2 ^ 16 = (s : Int) := by omega
  have e1 : IntKind.i64.wrap (IntKind.i64.wrap c * 2 ^ (min 8 64)) = ((c.toNat * 256 : Nat) : Int) := by
    rw [wi (n := c) (by omega) (by omega), show (2 : Int) ^ (min 8 64) = 256 from rfl, wi (by omega) (by omega)]; omega
  rw [e0, e1, xor64 _ _ (by omega) (by omega)]
  have hx : s ^^^ (c.toNat * 256) < 65536 := Nat.xor_lt_two_pow (n := 16) (by omega) (by omega)
  have hn := pN_nx s c.toNat (by omega) hs
  generalize s ^^^ (c.toNat * 256) = x at hx hn
  have main : f157_l3 ((x : Int), (0 : Int)) = some ((pN 8 x : Nat) : Int) := by
    unfold f157_l3
    refine loop_go (fun j => (((pN j x : Nat) : Int), (j : Int))) 8 rfl (fun j hj => ?_) ?_
    · unfold f157_l3_g f157_l3_k
      simp only
      have e2 : decide ((j : Int) < (8 : Int)) = true := by simp; omega
      have hr := round_p (pN j x) (pN_lt j x hx)
      rw [e2, wj (by omega), show (2 : Int) ^ (min 1 64) = 2 from rfl, pN_succ]
      simp only [cond_true]
      by_cases h : IntKind.i64.wrap (((pN j x : Nat) : Int) * 2) > 65535
      · rw [if_pos h] at hr
        rw [decide_eq_true h]
        simp only [cond_true]
        rw [hr]
      · rw [if_neg h] at hr
        rw [decide_eq_false h]
        simp only [cond_false]
        rw [hr]
    · unfold f157_l3_g f157_l3_k
      simp only
      rw [show decide (((8 : Nat) : Int) < (8 : Int)) = false from rfl]
      rfl
  rw [main, hn]
  rfl
theorem byteL_take {l : List Int} (h : byteL l) (n : Nat) : byteL (l.take n) := fun x hx => h x (List.mem_of_mem_take hx)
theorem byteL_drop {l : List Int} (h : byteL l) (n : Nat) : byteL (l.drop n) := fun x hx => h x (List.mem_of_mem_drop hx)
theorem sum141 (b : List Int) (hb : byteL b) (h : b.length ≤ 140737488355328) : f141 b = some ((((sumS 65535 b : Nat) : Int), ()), ()) := by
  unfold f141 f141_k f141_l3
  have := loop_all (g := f141_l3_g b ((List.length b : Nat) : Int)) (0 : Int) b (fun j (s : Nat) => ((s : Int), (j : Int))) (fun j s => s < 65536) (fun s c => nx s c.toNat) (y := ((sumS 65535 b : Nat) : Int))
    (fun j s hj hs => by
      refine ⟨?_, nx_lt _ _ hs⟩
      unfold f141_l3_g f141_l3_k
      simp only
      rw [dlt hj]
      simp only [cond_true]
      rw [if_pos (in_row hj), Int.toNat_natCast, next157 s _ hs (hb _ (getD_mem hj)), wj (by omega)]
      rfl) 65535 (by omega) (x0 := ((65535 : Int), (0 : Int))) rfl (fun hp => by
      unfold f141_l3_g f141_l3_k
      simp only
      rw [dge]; rfl)
  rw [this.1]; rfl
theorem fdivN (a b : Nat) : Int.fdiv (a : Int) (b : Int) = ((a / b : Nat) : Int) := by
  rw [Int.fdiv_eq_ediv_of_nonneg _ (by omega)]; simp
theorem round_r (x c n : Nat) (hx : x < 65536) (hc : c < 256) (hn : n ≤ 7) :
    (bif (bitop .i64 .and (Int.fdiv (x : Int) 32768) 1) != (bitop .i64 .and (IntKind.i64.wrap (Int.fdiv (c : Int) (2 ^ (min n 8)))) 1) then bitop .i64 .xor (bitop .i64 .and (IntKind.i64.wrap ((x : Int) * 2)) 65535) 4129 else bitop .i64 .and (IntKind.i64.wrap ((x : Int) * 2)) 65535) = ((tN x (decide (c / 2 ^ n % 2 = 1)) : Nat) : Int) := by
  have w : IntKind.i64.wrap ((x : Int) * 2) = ((2 * x : Nat) : Int) := by rw [wi (by omega) (by omega)]; omega
  have s : Int.fdiv (c : Int) (2 ^ (min n 8)) = ((c / 2 ^ n : Nat) : Int) := by
    rw [Nat.min_eq_left (by omega), show (2 : Int) ^ n = ((2 ^ n : Nat) : Int) by simp]
    exact fdivN _ _
  have s2 : Int.fdiv (x : Int) 32768 = ((x / 32768 : Nat) : Int) := fdivN x 32768
  have hq : c / 2 ^ n < 256 := Nat.lt_of_le_of_lt (Nat.div_le_self _ _) hc
  rw [w, s, s2]
  generalize c / 2 ^ n = q at *
  rw [wi (n := (q : Int)) (by omega) (by omega), mask64 _ 16 (by decide) 65535 (by decide), mask64 _ 1 (by decide) 1 (by decide), mask64 _ 1 (by decide) 1 (by decide)]
  have e : ((2 * x : Nat) : Int) % 2 ^ 16 = ((2 * x % 65536 : Nat) : Int) := by simp
  rw [e, show (4129 : Int) = ((4129 : Nat) : Int) from rfl, xor64 _ _ (by omega) (by omega)]
  unfold tN
  have ex : ((x / 32768 : Nat) : Int) % 2 ^ 1 = ((x / 32768 % 2 : Nat) : Int) := by simp
  have eq : ((q : Nat) : Int) % 2 ^ 1 = ((q % 2 : Nat) : Int) := by simp
  rw [ex, eq]
  have a : x / 32768 % 2 = 0 ∨ x / 32768 % 2 = 1 := by omega
  have b : q % 2 = 0 ∨ q % 2 = 1 := by omega
  rcases a with a | a <;> rcases b with b | b <;> rw [a, b] <;> rfl
theorem rem_in (c : Int) (hc : 0 ≤ c ∧ c < 256) (xs : List Int) (m j : Int) : ∀ (n x : Nat), n ≤ 8 → x < 65536 → f140_l6 c xs m j ((x : Int), (n : Int) - 1) = some ((rN c.toNat n x : Nat) : Int)
  | 0, x, _, _ => by
    unfold f140_l6
    refine loopO_out ?_
    unfold f140_l6_g f140_l6_k
    simp only
    rw [show decide (((0 : Nat) : Int) - 1 ≥ 0) = false from rfl]
    rfl
  | n + 1, x, hn, hx => by
    have ih := rem_in c hc xs m j n (tN x (decide (c.toNat / 2 ^ n % 2 = 1))) (by omega) (tN_lt _ _)
    unfold f140_l6 at ih ⊢
    refine Eq.trans (loopO_next ?_) ih
    unfold f140_l6_g f140_l6_k
    simp only
    have hr := round_r x c.toNat n hx (by omega) (by omega)
    rw [show ((c.toNat : Nat) : Int) = c by omega] at hr
    have e1 : ((n + 1 : Nat) : Int) - 1 = (n : Int) := by omega
    rw [e1, decide_eq_true (by omega : (n : Int) ≥ 0)]
    simp only [cond_true]
    rw [if_neg (by omega), Int.toNat_natCast, show (2 : Int) ^ (min 15 64) = 32768 from rfl, show (2 : Int) ^ (min 1 64) = 2 from rfl, wi (n := (n : Int) - 1) (by omega) (by omega), ← hr]
    cases (bitop IntKind.i64 BinOp.and ((x : Int).fdiv 32768) 1 != bitop IntKind.i64 BinOp.and (IntKind.i64.wrap (c.fdiv (2 ^ min n 8))) 1) <;> rfl
theorem rem140 (s : Nat) (b : List Int) (hs : s < 65536) (hb : byteL b) (h : b.length ≤ 140737488355328) : f140 (s : Int) b = some ((((sumS s b : Nat) : Int), ()), ()) := by
  unfold f140 f140_k f140_l3
  simp only
  rw [mask64 _ 16 (by decide) 65535 (by decide), show (s : Int) % 2 ^ 16 = (s : Int) by omega]
  have := loop_all (g := f140_l3_g b ((List.length b : Nat) : Int)) (0 : Int) b (fun j (s : Nat) => ((s : Int), (j : Int))) (fun j s => s < 65536) (fun s c => nx s c.toNat) (y := ((sumS s b : Nat) : Int))
    (fun j s hj hs => by
      refine ⟨?_, nx_lt _ _ hs⟩
      unfold f140_l3_g f140_l3_k
      simp only
      rw [dlt hj]
      simp only [cond_true]
      have := rem_in (b.getD j 0) (hb _ (getD_mem hj)) b ((List.length b : Nat) : Int) (j : Int) 8 s (Nat.le_refl _) hs
      rw [show ((8 : Nat) : Int) - 1 = 7 from rfl] at this
      rw [if_pos (in_row hj), Int.toNat_natCast, this, wj (by omega)]
      rfl) s hs (x0 := ((s : Int), (0 : Int))) rfl (fun hp => by
      unfold f140_l3_g f140_l3_k
      simp only
      rw [dge]; rfl)
  rw [this.1]; rfl
def sealB (b : List Int) : List Int := b ++ tail2 (sumS 65535 b)
theorem sealB_len (b : List Int) : (sealB b).length = b.length + 2 := by simp [sealB, tail2]
theorem clone76 (a : List Int) (h : a.length ≤ 140737488355328) : f76 a = some ((a, ()), ()) := by
  unfold f76 f76_k
  rw [if_pos ⟨by rw [most_eq]; omega, by decide, by decide⟩]
  cases a with
  | nil => exact nilT_same _ _
  | cons x l => rfl
theorem seal109 (b : List Int) (hb : byteL b) (h : b.length + 2 ≤ 140737488355328) : f109 b = some ((sealB b, ()), ()) := by
  unfold f109 f109_k
  have hr := rem140 65535 b (by omega) hb (by omega)
  rw [show ((65535 : Nat) : Int) = 65535 from rfl] at hr
  rw [hr]
  simp only [some_bind]
  have hs := sumS_lt b 65535 (by omega)
  rw [clone76 b (by omega)]
  simp only [some_bind]
  rw [if_pos (room1 (by omega) (by decide) (by decide))]
  have d1 : Int.tdiv ((sumS 65535 b : Nat) : Int) 256 = ((sumS 65535 b / 256 : Nat) : Int) := (Int.ofNat_tdiv _ 256).symm
  have d2 : Int.tmod ((sumS 65535 b : Nat) : Int) 256 = ((sumS 65535 b % 256 : Nat) : Int) := (Int.ofNat_tmod _ 256).symm
  rw [d1, d2, wi (n := ((sumS 65535 b / 256 : Nat) : Int)) (by omega) (by omega), wu (n := ((sumS 65535 b / 256 : Nat) : Int)) (by omega) (by omega), wu (n := ((sumS 65535 b % 256 : Nat) : Int)) (by omega) (by omega)]
  rfl
end Go.Proofs.Ytlgbhaigpecdoaa.V
