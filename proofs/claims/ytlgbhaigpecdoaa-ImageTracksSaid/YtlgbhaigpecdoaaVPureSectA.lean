/- Sectors: sums, seals, gaps, checks. -/
import Derived.Test.YtlgbhaigpecdoaaVFnSectA
import Derived.Test.YtlgbhaigpecdoaaVPureMfmL
import Derived.Test.YtlgbhaigpecdoaaVCrc
import Derived.KernelRfl
set_option linter.unusedVariables false
set_option linter.unusedSimpArgs false
namespace Go.Proofs.Ytlgbhaigpecdoaa.V
open Go

abbrev Sec := Int × (Int × (List Int × (Bool × Unit)))
/-! ### Sums -/
theorem pN_succ : ∀ (n x : Nat), pN (n + 1) x = tN (pN n x) false
  | 0, x => rfl
  | n + 1, x => by
    show pN (n + 1) (tN x false) = tN (pN n (tN x false)) false
    exact pN_succ n (tN x false)
theorem round_p (x : Nat) (hx : x < 65536) : (if IntKind.i64.wrap ((x : Int) * 2) > 65535 then bitop .i64 .xor (IntKind.i64.wrap ((x : Int) * 2)) 69665 else IntKind.i64.wrap ((x : Int) * 2)) = ((tN x false : Nat) : Int) := by
  have w : IntKind.i64.wrap ((x : Int) * 2) = ((2 * x : Nat) : Int) := by rw [wi (by omega) (by omega)]; omega
  rw [w]
  unfold tN
  by_cases h : 32768 ≤ x
  · rw [if_pos (by omega), show (69665 : Int) = ((69665 : Nat) : Int) from rfl, xor64 _ _ (by omega) (by omega)]
    have e : x / 32768 = 1 := by omega
    rw [e]
    simp only [Nat.one_mod, decide_true, Bool.true_bne, Bool.not_false, if_true]
    congr 1
    have d : (2 * x ^^^ 69665) / 65536 = 0 := by
      rw [show (65536 : Nat) = 2 ^ 16 from rfl, Nat.xor_div_two_pow, show 2 * x / 2 ^ 16 = 1 by omega]; rfl
    have m : (2 * x ^^^ 69665) % 65536 = (2 * x % 65536) ^^^ 4129 := by
      rw [show (65536 : Nat) = 2 ^ 16 from rfl, Nat.xor_mod_two_pow]
    omega
  · rw [if_neg (by omega)]
    have e : x / 32768 = 0 := by omega
    rw [e]
    simp only [Nat.zero_mod, bne_self_eq_false, Bool.false_eq_true, if_false]
    simp
    omega
theorem next157 (s : Nat) (c : Int) (hs : s < 65536) (hc : 0 ≤ c ∧ c < 256) : f157 (s : Int) c = some ((((nx s c.toNat : Nat) : Int), ()), ()) := by
  unfold f157 f157_k
  simp only
  rw [mask64 _ 16 (by decide) 65535 (by decide)]
  have e0 : (s : Int) % 2 ^ 16 = (s : Int) := by omega
  have e1 : IntKind.i64.wrap (IntKind.i64.wrap c * 2 ^ (min 8 64)) = ((c.toNat * 256 : Nat) : Int) := by
    rw [wi (n := c) (by omega) (by omega), show (2 : Int) ^ (min 8 64) = 256 from rfl, wi (by omega) (by omega)]; omega
  rw [e0, e1, xor64 _ _ (by omega) (by omega)]
  have hx : s ^^^ (c.toNat * 256) < 65536 := Nat.xor_lt_two_pow (n := 16) (by omega) (by omega)
  have hn := pN_nx s c.toNat (by omega) hs
  generalize s ^^^ (c.toNat * 256) = x at hx hn
  have main : f157_l3 ((x : Int), (0 : Int)) = some ((pN 8 x : Nat) : Int) := by
    unfold f157_l3
    refine loop_go (fun j => (((pN j x : Nat) : Int), (j : Int))) 8 rfl (fun j hj => ?_) ?_
    · unfold f157_l3_g f157_l3_k
      simp only
      have e2 : decide ((j : Int) < (8 : Int)) = true := by simp; omega
      have hr := round_p (pN j x) (pN_lt j x hx)
      rw [e2, wj (by omega), show (2 : Int) ^ (min 1 64) = 2 from rfl, pN_succ]
      simp only [cond_true]
      by_cases h : IntKind.i64.wrap (((pN j x : Nat) : Int) * 2) > 65535
      · rw [if_pos h] at hr
        rw [decide_eq_true h]
        simp only [cond_true]
        rw [hr]
      · rw [if_neg h] at hr
        rw [decide_eq_false h]
        simp only [cond_false]
        rw [hr]
    · unfold f157_l3_g f157_l3_k
      simp only
      rw [show decide (((8 : Nat) : Int) < (8 : Int)) = false from rfl]
      rfl
  rw [main, hn]
  rfl
theorem byteL_take {l : List Int} (h : byteL l) (n : Nat) : byteL (l.take n) := fun x hx => h x (List.mem_of_mem_take hx)
theorem byteL_drop {l : List Int} (h : byteL l) (n : Nat) : byteL (l.drop n) := fun x hx => h x (List.mem_of_mem_drop hx)
theorem byteL_app {a b : List Int} (h : byteL a) (g : byteL b) : byteL (a ++ b) := fun x hx => (List.mem_append.1 hx).elim (h x) (g x)
theorem sum141 (b : List Int) (hb : byteL b) (h : b.length ≤ 140737488355328) : f141 b = some ((((sumS 65535 b : Nat) : Int), ()), ()) := by
  unfold f141 f141_k f141_l3
  have := loop_all (g := f141_l3_g b ((List.length b : Nat) : Int)) (0 : Int) b (fun j (s : Nat) => ((s : Int), (j : Int))) (fun j s => s < 65536) (fun s c => nx s c.toNat) (y := ((sumS 65535 b : Nat) : Int))
    (fun j s hj hs => by
      refine ⟨?_, nx_lt _ _ hs⟩
      unfold f141_l3_g f141_l3_k
      simp only
      rw [dlt hj]
      simp only [cond_true]
      rw [if_pos (in_row hj), Int.toNat_natCast, next157 s _ hs (hb _ (getD_mem hj)), wj (by omega)]
      rfl) 65535 (by omega) (x0 := ((65535 : Int), (0 : Int))) rfl (fun hp => by
      unfold f141_l3_g f141_l3_k
      simp only
      rw [dge]; rfl)
  rw [this.1]; rfl
theorem fdivN (a b : Nat) : Int.fdiv (a : Int) (b : Int) = ((a / b : Nat) : Int) := by
  rw [Int.fdiv_eq_ediv_of_nonneg _ (by omega)]; simp
/-- The reference's round. -/
theorem round_r (x c n : Nat) (hx : x < 65536) (hc : c < 256) (hn : n ≤ 7) :
    (bif (bitop .i64 .and (Int.fdiv (x : Int) 32768) 1) != (bitop .i64 .and (IntKind.i64.wrap (Int.fdiv (c : Int) (2 ^ (min n 8)))) 1) then bitop .i64 .xor (bitop .i64 .and (IntKind.i64.wrap ((x : Int) * 2)) 65535) 4129 else bitop .i64 .and (IntKind.i64.wrap ((x : Int) * 2)) 65535) = ((tN x (decide (c / 2 ^ n % 2 = 1)) : Nat) : Int) := by
  have w : IntKind.i64.wrap ((x : Int) * 2) = ((2 * x : Nat) : Int) := by rw [wi (by omega) (by omega)]; omega
  have s : Int.fdiv (c : Int) (2 ^ (min n 8)) = ((c / 2 ^ n : Nat) : Int) := by
    rw [Nat.min_eq_left (by omega), show (2 : Int) ^ n = ((2 ^ n : Nat) : Int) by simp]
    exact fdivN _ _
  have s2 : Int.fdiv (x : Int) 32768 = ((x / 32768 : Nat) : Int) := fdivN x 32768
  have hq : c / 2 ^ n < 256 := Nat.lt_of_le_of_lt (Nat.div_le_self _ _) hc
  rw [w, s, s2]
  generalize c / 2 ^ n = q at *
  rw [wi (n := (q : Int)) (by omega) (by omega), mask64 _ 16 (by decide) 65535 (by decide), mask64 _ 1 (by decide) 1 (by decide), mask64 _ 1 (by decide) 1 (by decide)]
  have e : ((2 * x : Nat) : Int) % 2 ^ 16 = ((2 * x % 65536 : Nat) : Int) := by simp
  rw [e, show (4129 : Int) = ((4129 : Nat) : Int) from rfl, xor64 _ _ (by omega) (by omega)]
  unfold tN
  have ex : ((x / 32768 : Nat) : Int) % 2 ^ 1 = ((x / 32768 % 2 : Nat) : Int) := by simp
  have eq : ((q : Nat) : Int) % 2 ^ 1 = ((q % 2 : Nat) : Int) := by simp
  rw [ex, eq]
  have a : x / 32768 % 2 = 0 ∨ x / 32768 % 2 = 1 := by omega
  have b : q % 2 = 0 ∨ q % 2 = 1 := by omega
  rcases a with a | a <;> rcases b with b | b <;> rw [a, b] <;> rfl
theorem rem_in (c : Int) (hc : 0 ≤ c ∧ c < 256) (xs : List Int) (m j : Int) : ∀ (n x : Nat), n ≤ 8 → x < 65536 → f140_l6 c xs m j ((x : Int), (n : Int) - 1) = some ((rN c.toNat n x : Nat) : Int)
  | 0, x, _, _ => by
    unfold f140_l6
    refine loopO_out ?_
    unfold f140_l6_g f140_l6_k
    simp only
    rw [show decide (((0 : Nat) : Int) - 1 ≥ 0) = false from rfl]
    rfl
  | n + 1, x, hn, hx => by
    have ih := rem_in c hc xs m j n (tN x (decide (c.toNat / 2 ^ n % 2 = 1))) (by omega) (tN_lt _ _)
    unfold f140_l6 at ih ⊢
    refine Eq.trans (loopO_next ?_) ih
    unfold f140_l6_g f140_l6_k
    simp only
    have hr := round_r x c.toNat n hx (by omega) (by omega)
    rw [show ((c.toNat : Nat) : Int) = c by omega] at hr
    have e1 : ((n + 1 : Nat) : Int) - 1 = (n : Int) := by omega
    rw [e1, decide_eq_true (by omega : (n : Int) ≥ 0)]
    simp only [cond_true]
    rw [if_neg (by omega), Int.toNat_natCast, show (2 : Int) ^ (min 15 64) = 32768 from rfl, show (2 : Int) ^ (min 1 64) = 2 from rfl, wi (n := (n : Int) - 1) (by omega) (by omega), ← hr]
    cases (bitop IntKind.i64 BinOp.and ((x : Int).fdiv 32768) 1 != bitop IntKind.i64 BinOp.and (IntKind.i64.wrap (c.fdiv (2 ^ min n 8))) 1) <;> rfl
theorem rem140 (s : Nat) (b : List Int) (hs : s < 65536) (hb : byteL b) (h : b.length ≤ 140737488355328) : f140 (s : Int) b = some ((((sumS s b : Nat) : Int), ()), ()) := by
  unfold f140 f140_k f140_l3
  simp only
  rw [mask64 _ 16 (by decide) 65535 (by decide), show (s : Int) % 2 ^ 16 = (s : Int) by omega]
  have := loop_all (g := f140_l3_g b ((List.length b : Nat) : Int)) (0 : Int) b (fun j (s : Nat) => ((s : Int), (j : Int))) (fun j s => s < 65536) (fun s c => nx s c.toNat) (y := ((sumS s b : Nat) : Int))
    (fun j s hj hs => by
      refine ⟨?_, nx_lt _ _ hs⟩
      unfold f140_l3_g f140_l3_k
      simp only
      rw [dlt hj]
      simp only [cond_true]
      have := rem_in (b.getD j 0) (hb _ (getD_mem hj)) b ((List.length b : Nat) : Int) (j : Int) 8 s (Nat.le_refl _) hs
      rw [show ((8 : Nat) : Int) - 1 = 7 from rfl] at this
      rw [if_pos (in_row hj), Int.toNat_natCast, this, wj (by omega)]
      rfl) s hs (x0 := ((s : Int), (0 : Int))) rfl (fun hp => by
      unfold f140_l3_g f140_l3_k
      simp only
      rw [dge]; rfl)
  rw [this.1]; rfl
/-! ### Seals -/
def sealB (b : List Int) : List Int := b ++ tail2 (sumS 65535 b)
theorem sealB_len (b : List Int) : (sealB b).length = b.length + 2 := by simp [sealB, tail2]
theorem sealB_byte {b : List Int} (hb : byteL b) : byteL (sealB b) := by
  refine byteL_app hb fun x hx => ?_
  have := sumS_lt b 65535 (by omega)
  simp only [tail2, List.mem_cons, List.not_mem_nil, or_false] at hx
  rcases hx with h | h <;> subst h <;> omega
theorem seal115 (b : List Int) (hb : byteL b) (h : b.length + 2 ≤ 140737488355328) : f115 b = some ((sealB b, ()), ()) := by
  unfold f115 f115_k
  rw [sum141 b hb (by omega)]
  simp only [some_bind]
  have hs := sumS_lt b 65535 (by omega)
  rw [if_pos ⟨by rw [most_eq]; omega, by decide, by decide⟩]
  simp only [List.nil_append]
  rw [if_pos (room1 (by omega) (by decide) (by decide))]
  have e1 : IntKind.u8.wrap (Int.fdiv ((sumS 65535 b : Nat) : Int) (2 ^ (min 8 64))) = ((sumS 65535 b / 256 : Nat) : Int) := by
    have : Int.fdiv ((sumS 65535 b : Nat) : Int) (2 ^ (min 8 64)) = ((sumS 65535 b / 256 : Nat) : Int) := by
      exact fdivN _ 256
    rw [this, wu (by omega) (by omega)]
  have e2 : IntKind.u8.wrap ((sumS 65535 b : Nat) : Int) = ((sumS 65535 b % 256 : Nat) : Int) := by rw [IntKind.wrap_u8]; omega
  rw [e1, e2]
  rfl
theorem clone76 (a : List Int) (h : a.length ≤ 140737488355328) : f76 a = some ((a, ()), ()) := by
  unfold f76 f76_k
  rw [if_pos ⟨by rw [most_eq]; omega, by decide, by decide⟩]
  cases a with
  | nil => exact nilT_same _ _
  | cons x l => rfl
theorem seal109 (b : List Int) (hb : byteL b) (h : b.length + 2 ≤ 140737488355328) : f109 b = some ((sealB b, ()), ()) := by
  unfold f109 f109_k
  have hr := rem140 65535 b (by omega) hb (by omega)
  rw [show ((65535 : Nat) : Int) = 65535 from rfl] at hr
  rw [hr]
  simp only [some_bind]
  have hs := sumS_lt b 65535 (by omega)
  rw [clone76 b (by omega)]
  simp only [some_bind]
  rw [if_pos (room1 (by omega) (by decide) (by decide))]
  have d1 : Int.tdiv ((sumS 65535 b : Nat) : Int) 256 = ((sumS 65535 b / 256 : Nat) : Int) := (Int.ofNat_tdiv _ 256).symm
  have d2 : Int.tmod ((sumS 65535 b : Nat) : Int) 256 = ((sumS 65535 b % 256 : Nat) : Int) := (Int.ofNat_tmod _ 256).symm
  rw [d1, d2, wi (n := ((sumS 65535 b / 256 : Nat) : Int)) (by omega) (by omega), wu (n := ((sumS 65535 b / 256 : Nat) : Int)) (by omega) (by omega), wu (n := ((sumS 65535 b % 256 : Nat) : Int)) (by omega) (by omega)]
  rfl
/-! ### Gaps -/
def gap8 : List Int := [78, 78, 78, 78, 78, 78, 78, 78]
theorem gap114 : f114 = some ((gap8, ()), ()) := by
  have main : f114_l3 (8 : Int) ((0 : Int), [0, 0, 0, 0, 0, 0, 0, 0]) = some gap8 := by
    unfold f114_l3
    rw [loopO_next (a' := ((1 : Int), [78, 0, 0, 0, 0, 0, 0, 0])) (by kernel_rfl)]
    rw [loopO_next (a' := ((2 : Int), [78, 78, 0, 0, 0, 0, 0, 0])) (by kernel_rfl)]
    rw [loopO_next (a' := ((3 : Int), [78, 78, 78, 0, 0, 0, 0, 0])) (by kernel_rfl)]
    rw [loopO_next (a' := ((4 : Int), [78, 78, 78, 78, 0, 0, 0, 0])) (by kernel_rfl)]
    rw [loopO_next (a' := ((5 : Int), [78, 78, 78, 78, 78, 0, 0, 0])) (by kernel_rfl)]
    rw [loopO_next (a' := ((6 : Int), [78, 78, 78, 78, 78, 78, 0, 0])) (by kernel_rfl)]
    rw [loopO_next (a' := ((7 : Int), [78, 78, 78, 78, 78, 78, 78, 0])) (by kernel_rfl)]
    rw [loopO_next (a' := ((8 : Int), [78, 78, 78, 78, 78, 78, 78, 78])) (by kernel_rfl)]
    exact loopO_out (by kernel_rfl)
  have e : f114 = (f114_l3 (8 : Int) ((0 : Int), [0, 0, 0, 0, 0, 0, 0, 0])).bind fun y => some ((y, ()), ()) := by kernel_rfl
  rw [e, main]; rfl
theorem repeat97 : f97 [78] 8 = some ((gap8, ()), ()) := by
  have l1 : f97_l8 ((1 : Int), [78, 0, 0, 0, 0, 0, 0, 0]) = some gap8 := by
    unfold f97_l8
    rw [loopO_next (a' := ((2 : Int), [78, 78, 0, 0, 0, 0, 0, 0])) (by kernel_rfl)]
    rw [loopO_next (a' := ((4 : Int), [78, 78, 78, 78, 0, 0, 0, 0])) (by kernel_rfl)]
    rw [loopO_next (a' := ((8 : Int), [78, 78, 78, 78, 78, 78, 78, 78])) (by kernel_rfl)]
    exact loopO_out (by kernel_rfl)
  have l2 : f97_t6 [78] 8 = (f97_l8 ((1 : Int), [78, 0, 0, 0, 0, 0, 0, 0])).bind fun y => some y := by kernel_rfl
  have l3 : f97_t3 [78] 8 = (f97_t6 [78] 8).bind fun y => some y := by kernel_rfl
  have l4 : f97 [78] 8 = (f97_t3 [78] 8).bind fun y => some ((y, ()), ()) := by kernel_rfl
  rw [l4, l3, l2, l1]; rfl
/-! ### Rows in a row -/
theorem concat102 (l : List (List Int)) (h : l.flatten.length ≤ 140737488355328) (hl : l.length ≤ 140737488355328) : f102 l = some ((l.flatten, ()), ()) := by
  unfold f102 f102_k
  have hsum : ∀ j, ((l.take j).flatten).length ≤ l.flatten.length := fun j => by
    have : l = l.take j ++ l.drop j := (List.take_append_drop j l).symm
    rw [congrArg List.flatten this, List.flatten_append, List.length_append]; omega
  have hstep : ∀ j, j < l.length → (l.take (j + 1)).flatten = (l.take j).flatten ++ l.getD j [] := fun j hj => by
    rw [take_succ_getD (d := []) hj]; simp
  have s1 : f102_l3 l l ((List.length l : Nat) : Int) ((0 : Int), (0 : Int)) = some ((l.flatten.length : Nat) : Int) := by
    unfold f102_l3
    refine loop_go (fun j => ((((l.take j).flatten.length : Nat) : Int), (j : Int))) l.length rfl (fun j hj => ?_) ?_
    · have h1 := hsum (j + 1)
      rw [hstep j hj, List.length_append] at h1
      unfold f102_l3_g f102_l3_k
      simp only
      rw [dlt hj]
      simp only [cond_true]
      rw [if_pos (in_row hj), Int.toNat_natCast, wj (by omega), wi (by omega) (by omega), decide_eq_false (by omega)]
      simp only [cond_false]
      rw [hstep j hj, List.length_append]
      rfl
    · unfold f102_l3_g f102_l3_k
      simp only
      rw [dge, List.take_length]; rfl
  rw [s1]
  simp only [some_bind]
  have s2 : f133 () ((l.flatten.length : Nat) : Int) = some (([], ()), ()) := by
    unfold f133 f133_k
    rw [decide_eq_false (by omega)]
    simp only [cond_false]
    rw [Int.sub_zero, wi (by omega) (by omega)]
    by_cases h0 : (l.flatten.length : Int) > 0
    · rw [decide_eq_true h0]
      simp only [cond_true]
      rw [if_pos ⟨by omega, by rw [most_eq]; omega, by decide, by decide⟩, if_pos ⟨by omega, by omega, by omega⟩]
      simp
    · rw [decide_eq_false h0]; rfl
  rw [s2]
  simp only [some_bind]
  have s3 : f102_l11 l ((List.length l : Nat) : Int) ((0 : Int), []) = some l.flatten := by
    unfold f102_l11
    refine loop_go (fun j => ((j : Int), (l.take j).flatten)) l.length rfl (fun j hj => ?_) ?_
    · have h1 := hsum (j + 1)
      rw [hstep j hj, List.length_append] at h1
      unfold f102_l11_g f102_l11_k
      simp only
      rw [dlt hj]
      simp only [cond_true]
      rw [if_pos (in_row hj), Int.toNat_natCast, if_pos (room1 (by omega) (by decide) (by decide)), wj (by omega), hstep j hj]
    · unfold f102_l11_g f102_l11_k
      simp only
      rw [dge, List.take_length]; rfl
  rw [s3]
  rfl
/-! ### Checks -/
def badS (s : Sec) : Bool := decide (s.1 < 0 ∨ s.1 > 255 ∨ s.2.1 < 0 ∨ s.2.1 > 255)
def secE1 : List Sec → Int
  | [] => 0
  | s :: l => if badS s = true then 1 else if s.2.2.1.length ≠ 128 then 3 else secE1 l
def secE (track : Int) (l : List Sec) : Int := if track < 0 ∨ track > 19 then 1 else if l.length > 12 then 2 else secE1 l
def stepS1 (s : Sec) (u : Unit) : Unit ⊕ (Int ⊕ Unit) := if badS s = true then .inr (.inl 1) else if s.2.2.1.length ≠ 128 then .inr (.inl 3) else .inl ()
theorem foldE_sec : ∀ (l : List Sec), foldE stepS1 (fun _ => .inr ()) l () = if secE1 l = 0 then .inr () else .inl (secE1 l)
  | [] => rfl
  | s :: l => by
    rw [foldE_cons]
    have e : secE1 (s :: l) = if badS s = true then 1 else if s.2.2.1.length ≠ 128 then 3 else secE1 l := rfl
    by_cases h1 : badS s = true
    · rw [if_pos h1] at e
      rw [e, show stepS1 s () = .inr (.inl 1) from if_pos h1]; rfl
    · rw [if_neg h1] at e
      by_cases h2 : s.2.2.1.length ≠ 128
      · rw [if_pos h2] at e
        rw [e, show stepS1 s () = .inr (.inl 3) by unfold stepS1; rw [if_neg h1, if_pos h2]]; rfl
      · rw [if_neg h2] at e
        rw [e, show stepS1 s () = .inl () by unfold stepS1; rw [if_neg h1, if_neg h2]]
        exact foldE_sec l
abbrev zSec : Sec := (0, (0, ([], (false, ()))))
theorem check58 (track : Int) (l : List Sec) : f58 track l = some ((secE track l, ()), ()) := by
  unfold f58 f58_k secE
  by_cases c1 : track < 0
  · rw [decide_eq_true c1, if_pos (Or.inl c1 : track < 0 ∨ track > 19)]; rfl
  by_cases c2 : track > 19
  · rw [decide_eq_false c1, decide_eq_true (by omega : track ≥ 20), if_pos (Or.inr c2 : track < 0 ∨ track > 19)]; rfl
  rw [decide_eq_false c1, decide_eq_false (by omega : ¬ track ≥ 20), if_neg (by omega : ¬ (track < 0 ∨ track > 19))]
  simp only [cond_false]
  by_cases c3 : l.length > 12
  · rw [decide_eq_true (by omega : ((l.length : Nat) : Int) > 12), if_pos c3]; rfl
  rw [decide_eq_false (by omega : ¬ ((l.length : Nat) : Int) > 12), if_neg c3]
  simp only [cond_false]
  unfold f58_l6
  rw [loop_list (g := f58_l6_g l ((List.length l : Nat) : Int)) zSec l (fun j (s : Unit) => (j : Int)) (fun j s => True) stepS1 (fun _ => .inr ())
    (fun j s hj hs => by
      refine ⟨?_, fun _ _ => trivial⟩
      unfold f58_l6_g f58_l6_k
      rw [dlt hj]
      simp only [cond_true]
      rw [if_pos (in_row hj), Int.toNat_natCast, wj (by omega)]
      unfold stepS1 badS
      generalize l.getD j zSec = x
      obtain ⟨t, n, d, b, ⟨⟩⟩ := x
      simp only
      by_cases k1 : t < 0
      · simp [k1]
      by_cases k2 : t > 255
      · simp [k1, k2]
      by_cases k3 : n < 0
      · simp [k1, k2, k3]
      by_cases k4 : n > 255
      · simp [k1, k2, k3, k4]
      rw [decide_eq_false k1, decide_eq_false k2, decide_eq_false k3, decide_eq_false k4]
      simp only [cond_false]
      rw [decide_eq_false (by omega : ¬ (t < 0 ∨ t > 255 ∨ n < 0 ∨ n > 255)), if_neg (by decide)]
      by_cases k5 : d.length = 128
      · rw [show (((d.length : Nat) : Int) != 128) = false by simp [k5], if_neg (by simp [k5])]; rfl
      · rw [show (((d.length : Nat) : Int) != 128) = true by simp; omega, if_pos k5]; rfl)
    (fun s hs => by
      unfold f58_l6_g f58_l6_k
      rw [dge]; rfl) () trivial (x0 := (0 : Int)) rfl]
  rw [foldE_sec]
  simp only [some_bind]
  by_cases h : secE1 l = 0
  · rw [if_pos h, h]; rfl
  · rw [if_neg h]; rfl
theorem check59 (track : Int) (l : List Sec) : f59 track l = some ((secE track l, ()), ()) := by
  unfold f59 f59_k secE
  by_cases c1 : track < 0
  · rw [decide_eq_true c1, if_pos (Or.inl c1 : track < 0 ∨ track > 19)]; rfl
  by_cases c2 : track > 19
  · rw [decide_eq_false c1, decide_eq_true c2, if_pos (Or.inr c2 : track < 0 ∨ track > 19)]; rfl
  rw [decide_eq_false c1, decide_eq_false c2, if_neg (by omega : ¬ (track < 0 ∨ track > 19))]
  simp only [cond_false]
  by_cases c3 : l.length > 12
  · rw [decide_eq_true (by omega : ((l.length : Nat) : Int) > 12), if_pos c3]; rfl
  rw [decide_eq_false (by omega : ¬ ((l.length : Nat) : Int) > 12), if_neg c3]
  simp only [cond_false]
  unfold f59_l6
  rw [loop_list (g := f59_l6_g l ((List.length l : Nat) : Int)) zSec l (fun j (s : Unit) => (j : Int)) (fun j s => True) stepS1 (fun _ => .inr ())
    (fun j s hj hs => by
      refine ⟨?_, fun _ _ => trivial⟩
      unfold f59_l6_g f59_l6_k
      rw [dlt hj]
      simp only [cond_true]
      rw [if_pos (in_row hj), Int.toNat_natCast, wj (by omega)]
      unfold stepS1 badS
      generalize l.getD j zSec = x
      obtain ⟨t, n, d, b, ⟨⟩⟩ := x
      simp only
      by_cases k1 : t < 0 ∨ n < 0
      · have : (if n < t then n else t) < 0 := by split <;> omega
        rw [decide_eq_true this, decide_eq_true (by omega : t < 0 ∨ t > 255 ∨ n < 0 ∨ n > 255)]; rfl
      have h1 : ¬ (if n < t then n else t) < 0 := by split <;> omega
      rw [decide_eq_false h1]
      simp only [cond_false]
      by_cases k2 : t > 255 ∨ n > 255
      · have : (if n > t then n else t) > 255 := by split <;> omega
        rw [decide_eq_true this, decide_eq_true (by omega : t < 0 ∨ t > 255 ∨ n < 0 ∨ n > 255)]; rfl
      have h2 : ¬ (if n > t then n else t) > 255 := by split <;> omega
      rw [decide_eq_false h2]
      simp only [cond_false]
      rw [decide_eq_false (by omega : ¬ (t < 0 ∨ t > 255 ∨ n < 0 ∨ n > 255)), if_neg (by decide)]
      by_cases k5 : d.length = 128
      · rw [show (((d.length : Nat) : Int) != 128) = false by simp [k5], if_neg (by simp [k5])]; rfl
      · rw [show (((d.length : Nat) : Int) != 128) = true by simp; omega, if_pos k5]; rfl)
    (fun s hs => by
      unfold f59_l6_g f59_l6_k
      rw [dge]; rfl) () trivial (x0 := (0 : Int)) rfl]
  rw [foldE_sec]
  simp only [some_bind]
  by_cases h : secE1 l = 0
  · rw [if_pos h, h]; rfl
  · rw [if_neg h]; rfl
theorem secE_ok {track : Int} {l : List Sec} (h : secE track l = 0) : l.length ≤ 12 ∧ ∀ s ∈ l, 0 ≤ s.1 ∧ s.1 ≤ 255 ∧ 0 ≤ s.2.1 ∧ s.2.1 ≤ 255 ∧ s.2.2.1.length = 128 := by
  unfold secE at h
  split at h
  · cases h
  · split at h
    · cases h
    · refine ⟨by omega, ?_⟩
      rename_i _ hl
      clear hl
      induction l with
      | nil => intro s hs; cases hs
      | cons x l ih =>
        simp only [secE1] at h
        split at h
        · cases h
        · rename_i hb
          split at h
          · cases h
          · rename_i hd
            have hb : badS x = false := by simpa using hb
            unfold badS at hb
            have hb := of_decide_eq_false hb
            intro s hs
            rcases List.mem_cons.1 hs with e | hs
            · subst e; exact ⟨by omega, by omega, by omega, by omega, by omega⟩
            · exact ih h s hs
end Go.Proofs.Ytlgbhaigpecdoaa.V
