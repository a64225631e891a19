/- The pure statement of ChainNews: new disks, and names. -/
-- NUM Ytmfjebpdkgbggaa
import Derived.Test.YtmfjebpdkgbggaaVPureChainN
import Derived.Test.YtmfjebpdkgbggaaVPureSame
import Derived.KernelRfl
set_option linter.unusedVariables false
set_option linter.unusedSimpArgs false
namespace Go.Proofs.Ytmfjebpdkgbggaa.V
open Go

/-- The table, byte for byte, as far as it was set. -/
def tabT (k : Nat) : List Int := (List.range 256).map (tval k)
theorem tabT_len (k : Nat) : (tabT k).length = 256 := by simp [tabT]
theorem tabT_getD {k i : Nat} (h : i < 256) : (tabT k).getD i 0 = tval k i := by
  unfold tabT
  rw [List.getD_eq_getElem?_getD, List.getElem?_map, List.getElem?_range h]; rfl
theorem tabT_set {k : Nat} (h1 : 10 ≤ k) (h2 : k < 256) : (tabT k).set k 255 = tabT (k + 1) := by
  refine getD_ext (d := 0) (by rw [List.length_set, tabT_len, tabT_len]) (fun j hj => ?_)
  rw [List.length_set, tabT_len] at hj
  rw [set_getD2 (by rw [tabT_len]; omega), tabT_getD hj, tabT_getD hj]
  unfold tval
  by_cases e : k = j
  · rw [if_pos e, if_pos ⟨by omega, by omega⟩]
  · rw [if_neg e]
    by_cases c : j ≥ 10 ∧ j < k
    · rw [if_pos c, if_pos ⟨c.1, by omega⟩]
    · rw [if_neg c, if_neg (fun hh => c ⟨hh.1, by omega⟩)]
theorem tabT_ten : tabT 10 = List.replicate 256 253 := by decide +kernel
theorem tabT_lo (k : Nat) : List.take 128 (List.drop 0 (tabT k)) = tabR k 0 := by
  rw [List.drop_zero]
  refine getD_ext (d := 0) (by rw [List.length_take, tabT_len, tabR_len]; omega) (fun j hj => ?_)
  rw [List.length_take, tabT_len] at hj
  rw [getD_take (by omega), tabT_getD (by omega), tabR_getD (by omega), Nat.zero_mul, Nat.zero_add]
theorem tabT_hi (k : Nat) : List.take (256 - 128) (List.drop 128 (tabT k)) = tabR k 1 := by
  refine getD_ext (d := 0) (by rw [List.length_take, List.length_drop, tabT_len, tabR_len]; omega) (fun j hj => ?_)
  rw [List.length_take, List.length_drop, tabT_len] at hj
  rw [getD_take (by omega), getD_drop, tabT_getD (by omega), tabR_getD (by omega), Nat.one_mul]
/-- A byte, over and over. -/
def rep8 (j : Nat) : Int × List Int := (((2 ^ j : Nat) : Int), List.replicate (2 ^ j) 253 ++ List.replicate (256 - 2 ^ j) 0)
theorem rep_step : ∀ j, j < 8 → f31_l8_g (rep8 j) = some (.inl (rep8 (j + 1)))
  | 0, _ => by kernel_rfl
  | 1, _ => by kernel_rfl
  | 2, _ => by kernel_rfl
  | 3, _ => by kernel_rfl
  | 4, _ => by kernel_rfl
  | 5, _ => by kernel_rfl
  | 6, _ => by kernel_rfl
  | 7, _ => by kernel_rfl
  | j + 8, h => by omega
theorem rep31 : f31 [253] 256 = some ((List.replicate 256 253, ()), ()) := by
  have e : f31_l8 (((1 : Nat) : Int), (spl (List.replicate 256 (0 : Int)) 0 1 [253])) = some (List.replicate 256 253) := by
    unfold f31_l8
    exact loop_go rep8 8 (by kernel_rfl) rep_step (by kernel_rfl)
  have e1 : f31_t6 [253] 256 = some (List.replicate 256 253) := by
    unfold f31_t6 f31_t6_k
    have w : IntKind.i64.wrap 256 = 256 := by decide +kernel
    rw [w, if_pos (by decide +kernel), if_pos (by decide +kernel)]
    have : (min ([253] : List Int).length (List.replicate (Int.toNat 256) (0 : Int)).length) = 1 := by rw [List.length_replicate]; decide
    simp only [this]
    exact (congrArg (fun o => Option.bind o fun y5 => some y5) e).trans rfl
  have e2 : f66 (IntKind.u64.wrap ((List.length ([253] : List Int) : Nat) : Int)) (IntKind.u64.wrap 256) = some ((0, (256, ())), ()) := by kernel_rfl
  unfold f31 f31_k f31_t3 f31_t3_k
  simp only [e2, some_bind, e1]
  rfl
theorem sized29 (a b : Int) : f29 a b 10 = some ((if bad a b = true then 1 else if a * b ≤ 10 then 13 else 0, ()), ()) := by
  unfold f29 f29_k
  simp only
  by_cases c0 : a < 1 ∨ b < 1
  · have : (if b < a then b else a) < 1 := by split <;> omega
    have hb : bad a b = true := by unfold bad; exact decide_eq_true (by omega)
    rw [decide_eq_true this, if_pos hb]; rfl
  have : ¬ (if b < a then b else a) < 1 := by split <;> omega
  rw [decide_eq_false this]
  simp only [cond_false]
  by_cases c2 : a > 20
  · have hb : bad a b = true := by unfold bad; exact decide_eq_true (by omega)
    rw [decide_eq_true c2, if_pos hb]; rfl
  by_cases c4 : b > 12
  · have hb : bad a b = true := by unfold bad; exact decide_eq_true (by omega)
    rw [decide_eq_false c2, decide_eq_true c4, if_pos hb]; rfl
  have hb : bad a b = false := by unfold bad; exact decide_eq_false (by omega)
  obtain ⟨a1, a2, b1, b2, m1, m2⟩ := area hb
  rw [decide_eq_false c2, decide_eq_false c4, hb, wi (by omega) (by omega)]
  by_cases c5 : a * b ≤ 10
  · rw [decide_eq_true c5, if_neg (by simp), if_pos c5]; rfl
  · rw [decide_eq_false c5, if_neg (by simp), if_neg c5]; rfl
theorem blank30 {a b : Int} (hb : bad a b = false) : f30 a b = some ((blankD a b, ()), ()) := by
  obtain ⟨a1, a2, b1, b2, m1, m2⟩ := area hb
  unfold f30 f30_k
  rw [wi (by omega) (by omega)]
  obtain ⟨n, hn⟩ : ∃ n : Nat, a * b = (n : Int) := ⟨(a * b).toNat, by omega⟩
  rw [hn]
  have e : f30_l3 (n : Int) ((0 : Int), ((0 : Int), (([] : List (List Int)), ()))) ((0 : Int), (a, (b, ([], ())))) = some (a, (b, (List.replicate n (List.replicate 128 (0 : Int)), ()))) := by
    unfold f30_l3
    refine loop_go (fun j => ((j : Int), (a, (b, (List.replicate j (List.replicate 128 (0 : Int)), ()))))) n rfl (fun j hj => ?_) ?_
    · unfold f30_l3_g f30_l3_k
      simp only
      rw [dlt hj]
      simp only [cond_true, List.length_replicate]
      rw [if_pos ⟨by rw [most_eq]; omega, by decide, by decide⟩, wj (by omega), List.replicate_succ' (n := j)]
    · unfold f30_l3_g f30_l3_k
      simp
  simp only [e, some_bind]
  simp [blankD, hn]
def zeroD : Disk := (0, (0, ([], ())))
def newM (a b : Int) : Disk × Int := if bad a b = true then (zeroD, 1) else if a * b ≤ 10 then (zeroD, 13) else (newD a b, 0)
theorem ref9 (a b : Int) : f9 a b = some (((newM a b).1, ((newM a b).2, ())), ()) := by
  unfold f9 f9_k newM
  rw [sized29]
  simp only [some_bind]
  cases hb : bad a b with
  | true => rfl
  | false =>
    obtain ⟨a1, a2, b1, b2, m1, m2⟩ := area hb
    simp only [Bool.false_eq_true, if_false]
    by_cases c : a * b ≤ 10
    · simp only [if_pos c]; rfl
    · simp only [if_neg c]
      have hz : ((0 : Int) != 0) = false := rfl
      rw [hz, blank30 hb, rep31]
      simp only [cond_false, some_bind]
      obtain ⟨n, hn⟩ : ∃ n : Nat, a * b = ((10 + n : Nat) : Int) := ⟨(a * b).toNat - 10, by omega⟩
      have hk0 : (0 : Int) < (((a * b).toNat : Nat) : Int) := by omega
      have hk1 : (1 : Int) < (((a * b).toNat : Nat) : Int) := by omega
      have hk2 : 2 ≤ (a * b).toNat := by omega
      have hlp : f9_l7 a b ((0 : Int), ((0 : Int), (([] : List (List Int)), ()))) (blankD a b) ((10 : Int), List.replicate 256 253) = some (tabT (a * b).toNat) := by
        unfold f9_l7
        rw [← tabT_ten]
        refine loop_go (fun j => (((10 + j : Nat) : Int), tabT (10 + j))) n rfl (fun j hj => ?_) ?_
        · unfold f9_l7_g f9_l7_k
          simp only
          rw [wi (by omega) (by omega), hn, decide_eq_true (by omega)]
          simp only [cond_true]
          rw [if_pos ⟨by omega, by rw [tabT_len]; omega⟩, Int.toNat_natCast, tabT_set (by omega) (by omega), wj (by omega)]
          rfl
        · unfold f9_l7_g f9_l7_k
          simp only
          rw [wi (by omega) (by omega), hn, dge]
          rfl
      rw [hlp]
      simp only [some_bind, tabT_len]
      have hlen : (blankD a b).2.2.1.length = (a * b).toNat := by simp [blankD]
      have q1 : (0 : Int) ≤ (0 : Int) ∧ (0 : Int) ≤ (128 : Int) ∧ (128 : Int) ≤ (128 : Int) ∧ (128 : Int) ≤ ((256 : Nat) : Int) := ⟨by omega, by omega, by omega, by omega⟩
      have q2 : (0 : Int) ≤ (128 : Int) ∧ (128 : Int) ≤ ((256 : Nat) : Int) ∧ ((256 : Nat) : Int) ≤ ((256 : Nat) : Int) := ⟨by omega, by omega, by omega⟩
      have q3 : (0 : Int) ≤ (0 : Int) ∧ (0 : Int) < ((List.length (blankD a b).2.2.1 : Nat) : Int) := ⟨Int.le_refl 0, by rw [hlen]; exact hk0⟩
      have q4 : (0 : Int) ≤ (1 : Int) ∧ (1 : Int) < ((List.length (List.set (blankD a b).2.2.1 0 (tabR (a * b).toNat 0)) : Nat) : Int) := ⟨by decide, by rw [List.length_set, hlen]; exact hk1⟩
      rw [if_pos q1, if_pos q2, if_pos q3, show Int.toNat ((256 : Nat) : Int) = 256 from rfl, tabT_lo, tabT_hi, if_pos q4]
      have hrow : ∀ x ∈ (blankD a b).2.2.1, x.length = 128 := fun x hx => by
        unfold blankD at hx
        rw [(List.mem_replicate.1 hx).2, List.length_replicate]
      rw [← tabN_eq hrow (by rw [hlen]; exact hk2)]
      rfl
theorem new8 (a b : Int) : f8 a b = some (((newM a b).1, ((newM a b).2, ())), ()) := by
  unfold newM
  cases hb : bad a b with
  | true =>
    unfold f8 f8_k
    rw [new21]
    simp only [hb, if_true, some_bind]
    rfl
  | false =>
    simp only [Bool.false_eq_true, if_false]
    obtain ⟨a1, a2, b1, b2, m1, m2⟩ := area hb
    by_cases c : a * b ≤ 10
    · simp only [if_pos c]
      unfold f8 f8_k
      rw [new21]
      simp only [hb, Bool.false_eq_true, if_false, some_bind]
      have hlen : (blankD a b).2.2.1.length = (a * b).toNat := by simp [blankD]
      have hz : ((0 : Int) != 0) = false := rfl
      rw [hz, hlen, decide_eq_true (by omega)]
      rfl
    · simp only [if_neg c]
      exact new36 hb (by omega)
theorem tval_byte (n i : Nat) : 0 ≤ tval n i ∧ tval n i < 256 := by
  unfold tval; split <;> omega
theorem newM_bytes (a b : Int) : bytesD (newM a b).1 ∧ (newM a b).1.2.2.1.length ≤ 240 := by
  unfold newM
  cases hb : bad a b with
  | true => exact ⟨fun x hx => by simp [zeroD] at hx, by simp [zeroD]⟩
  | false =>
    simp only [Bool.false_eq_true, if_false]
    obtain ⟨a1, a2, b1, b2, m1, m2⟩ := area hb
    by_cases c : a * b ≤ 10
    · simp only [if_pos c]; exact ⟨fun x hx => by simp [zeroD] at hx, by simp [zeroD]⟩
    · simp only [if_neg c]
      have hrow : ∀ x ∈ (List.replicate (a * b).toNat (List.replicate 128 (0 : Int))), x.length = 128 := fun x hx => by
        rw [(List.mem_replicate.1 hx).2, List.length_replicate]
      have e : (newD a b).2.2.1 = ((List.replicate (a * b).toNat (List.replicate 128 (0 : Int))).set 0 (tabR (a * b).toNat 0)).set 1 (tabR (a * b).toNat 1) := by
        have h2 : 2 ≤ (List.replicate (a * b).toNat (List.replicate 128 (0 : Int))).length := by rw [List.length_replicate]; omega
        have := tabN_eq (n := (a * b).toNat) hrow h2
        unfold newD
        dsimp only
        rw [this]
      refine ⟨fun x hx y hy => ?_, by rw [e, List.length_set, List.length_set, List.length_replicate]; omega⟩
      have hR : ∀ r, ∀ y ∈ tabR (a * b).toNat r, 0 ≤ y ∧ y < 256 := fun r y hy => by
        obtain ⟨j, _, rfl⟩ := List.mem_map.1 hy
        exact tval_byte _ _
      rw [e] at hx
      rcases List.mem_or_eq_of_mem_set hx with hx | hx
      · rcases List.mem_or_eq_of_mem_set hx with hx | hx
        · rw [(List.mem_replicate.1 hx).2] at hy
          rw [(List.mem_replicate.1 hy).2]; omega
        · exact hR 0 y (hx ▸ hy)
      · exact hR 1 y (hx ▸ hy)
-- LAW
theorem Pure.ChainNews (x0 : ByteArray) (x1 : Int) (x2 : Int) (w0 : x0.size ≤ maxLen) (s0 : x0.size ≤ 140737488351232) (w1 : (Lit.int .i64 x1).wf = true) (w2 : (Lit.int .i64 x2).wf = true) : f3 x0 x1 x2 = some ((true, ()), ()) := by
  obtain ⟨n1, n2⟩ := newM_bytes x1 x2
  have hl : (s2b x0).length ≤ 140737488355328 := by
    unfold s2b
    rw [List.length_map]
    have : x0.data.toList.length = x0.size := rfl
    omega
  unfold f3 f3_k
  rw [new8, ref9, begun38]
  simp only [some_bind, cond_true]
  have e1 := name39 (s2b_byte x0) hl
  have e2 := name40 (s2b_byte x0) hl
  rw [b2s_s2b] at e1 e2
  rw [e1, e2, same19 _ _ (by omega) n1 n1]
  simp
end Go.Proofs.Ytmfjebpdkgbggaa.V
