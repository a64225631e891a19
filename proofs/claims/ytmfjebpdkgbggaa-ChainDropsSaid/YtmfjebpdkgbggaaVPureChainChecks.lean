/- The pure statement of ChainChecks: the check of a disk, and its room. -/
import Derived.Test.YtmfjebpdkgbggaaVPureChainH
set_option linter.unusedVariables false
set_option linter.unusedSimpArgs false
namespace Go.Proofs.Ytmfjebpdkgbggaa.V
open Go
def rm (d : Disk) (j : Nat) : Nat := (List.range j).countP (fun i => tb d (10 + i) == 255)
def roomM (d : Disk) : Nat := rm d (d.2.2.1.length - 10)
theorem rm_succ (d : Disk) (j : Nat) : rm d (j + 1) = rm d j + if (tb d (10 + j) == 255) = true then 1 else 0 := by
  unfold rm
  rw [List.range_succ, List.countP_append, List.countP_singleton]
theorem rm_le (d : Disk) (j : Nat) : rm d j ≤ j := by
  have := List.countP_le_length (p := fun i => tb d (10 + i) == 255) (l := List.range j)
  rw [List.length_range] at this
  exact this
theorem room_loop {d : Disk} (h : GoodD d) : f32_l6 d ((0 : Int), (10 : Int)) = some ((roomM d : Nat) : Int) := by
  have hg := h.gt
  have hle := h.le
  unfold f32_l6 roomM
  refine loop_go (fun j => (((rm d j : Nat) : Int), ((10 + j : Nat) : Int))) (d.2.2.1.length - 10) rfl (fun j hj => ?_) ?_
  · have hr := rm_le d j
    unfold f32_l6_g f32_l6_k
    simp only
    rw [decide_eq_true (by omega)]
    simp only [cond_true]
    rw [table117 h (by omega), wj (j := 10 + j) (by omega), wj (j := rm d j) (by omega), rm_succ]
    simp only [some_bind]
    cases tb d (10 + j) == 255 <;> rfl
  · unfold f32_l6_g f32_l6_k
    simp only
    rw [show 10 + (d.2.2.1.length - 10) = d.2.2.1.length by omega, dge]; rfl
theorem room61 (d : Disk) (hb : ∀ x ∈ d.2.2.1, byteL x) (hl : d.2.2.1.length ≤ 140737488355328) (hg : chkM d = 0 → GoodD d) : f32 d = some (((if chkM d = 0 then ((roomM d : Nat) : Int) else 0), (chkM d, ())), ()) := by
  unfold f32 f32_k
  rw [check62 d hb hl]
  simp only [some_bind]
  by_cases c : chkM d = 0
  · have : (chkM d != 0) = false := by simpa using c
    rw [this, if_pos c, c]
    simp only [cond_false]
    rw [room_loop (hg c)]; rfl
  · have : (chkM d != 0) = true := by simpa using c
    rw [this, if_neg c]; rfl
def setT (n : Nat) (i : Nat) (rows : List (List Int)) : List (List Int) := rows.set (i / 128) ((rows.getD (i / 128) []).set (i % 128) (if i ≥ 10 ∧ i < n then 255 else 253))
def tabN (n : Nat) : Nat → List (List Int) → List (List Int)
  | 0, rows => rows
  | k + 1, rows => setT n k (tabN n k rows)
theorem setT_len (n i : Nat) (rows : List (List Int)) : (setT n i rows).length = rows.length := by unfold setT; rw [List.length_set]
theorem setT_row {n i : Nat} {rows : List (List Int)} (h : ∀ x ∈ rows, x.length = 128) (hi : i / 128 < rows.length) : ∀ x ∈ setT n i rows, x.length = 128 := by
  intro x hx
  unfold setT at hx
  rcases List.mem_or_eq_of_mem_set hx with hx | hx
  · exact h x hx
  · rw [hx, List.length_set]; exact h _ (getD_mem hi)
theorem tabN_ok {n : Nat} {rows : List (List Int)} (h : ∀ x ∈ rows, x.length = 128) (hl : 2 ≤ rows.length) : ∀ k, k ≤ 256 → (tabN n k rows).length = rows.length ∧ ∀ x ∈ tabN n k rows, x.length = 128
  | 0, _ => ⟨rfl, h⟩
  | k + 1, hk => by
    obtain ⟨h1, h2⟩ := tabN_ok (n := n) h hl k (by omega)
    exact ⟨by unfold tabN; rw [setT_len, h1], setT_row h2 (by omega)⟩
def newD (a b : Int) : Disk := (a, (b, (tabN (a * b).toNat 256 (List.replicate (a * b).toNat (List.replicate 128 0)), ())))
theorem new36 {a b : Int} (hb : bad a b = false) (hn : 10 < a * b) : f8 a b = some ((newD a b, (0, ())), ()) := by
  obtain ⟨a1, a2, b1, b2, m1, m2⟩ := area hb
  unfold f8 f8_k
  rw [new21, if_neg (by rw [hb]; simp)]
  simp only [some_bind]
  have hrow : ∀ x ∈ (List.replicate (a * b).toNat (List.replicate 128 (0 : Int))), x.length = 128 := fun x hx => by
    rw [(List.mem_replicate.1 hx).2, List.length_replicate]
  have hlen : (List.replicate (a * b).toNat (List.replicate 128 (0 : Int))).length = (a * b).toNat := List.length_replicate
  have e0 : (blankD a b).2.2.1 = List.replicate (a * b).toNat (List.replicate 128 (0 : Int)) := rfl
  rw [e0, hlen, decide_eq_false (by omega)]
  have hz : ((0 : Int) != 0) = false := rfl
  rw [hz]
  simp only [cond_false]
  have hs : f8_l7 ((0 : Int), ((0 : Int), (([] : List (List Int)), ()))) ((0 : Int), blankD a b) = some (newD a b) := by
    unfold f8_l7
    refine loop_go (fun j => ((j : Int), (a, (b, (tabN (a * b).toNat j (List.replicate (a * b).toNat (List.replicate 128 0)), ()))))) 256 rfl (fun j hj => ?_) ?_
    · obtain ⟨t1, t2⟩ := tabN_ok (n := (a * b).toNat) hrow (by rw [hlen]; omega) j (by omega)
      rw [hlen] at t1
      have q1 : Int.tdiv (j : Int) 128 = ((j / 128 : Nat) : Int) := (Int.ofNat_tdiv j 128).symm
      have q2 : Int.tmod (j : Int) 128 = ((j % 128 : Nat) : Int) := (Int.ofNat_tmod j 128).symm
      have hr : ((tabN (a * b).toNat j (List.replicate (a * b).toNat (List.replicate 128 0))).getD (j / 128) []).length = 128 := t2 _ (getD_mem (by rw [t1]; omega))
      unfold f8_l7_g f8_l7_k
      simp only
      rw [decide_eq_true (by omega)]
      simp only [cond_true]
      rw [q1, q2, wi (n := ((j / 128 : Nat) : Int)) (by omega) (by omega), wj (by omega)]
      have hc1 : (0 : Int) ≤ ((j / 128 : Nat) : Int) ∧ ((j / 128 : Nat) : Int) < ((List.length (tabN (a * b).toNat j (List.replicate (a * b).toNat (List.replicate 128 (0 : Int)))) : Nat) : Int) := ⟨by omega, by rw [t1]; omega⟩
      have hc2 : (0 : Int) ≤ ((j % 128 : Nat) : Int) ∧ ((j % 128 : Nat) : Int) < ((List.length ((tabN (a * b).toNat j (List.replicate (a * b).toNat (List.replicate 128 (0 : Int)))).getD (j / 128) []) : Nat) : Int) := ⟨by omega, by rw [hr]; omega⟩
      simp only [if_pos hc1, Int.toNat_natCast, if_pos hc2]
      rw [t1]
      show _ = some (Sum.inl (((j + 1 : Nat) : Int), (a, (b, (setT (a * b).toNat j (tabN (a * b).toNat j (List.replicate (a * b).toNat (List.replicate 128 0))), ())))))
      unfold setT
      by_cases c1 : j ≥ 10
      · rw [decide_eq_true (by omega)]
        by_cases c2 : j < (a * b).toNat
        · rw [decide_eq_true (by omega), if_pos ⟨c1, c2⟩]; rfl
        · rw [decide_eq_false (by omega), if_neg (fun hh => c2 hh.2)]; rfl
      · rw [decide_eq_false (by omega), if_neg (fun hh => c1 hh.1)]; rfl
    · unfold f8_l7_g f8_l7_k
      rfl
  rw [hs]; rfl
theorem begun38 : f10 = some ((true, ()), ()) := by
  unfold f10 f10_k
  rw [new36 (a := 4) (b := 5) (by decide) (by decide)]
  simp only [some_bind]
  have hby : ∀ x ∈ (newD 4 5).2.2.1, byteL x := by
    have : (newD 4 5).2.2.1.all (fun x => x.all fun y => decide (0 ≤ y ∧ y < 256)) = true := by decide +kernel
    intro x hx y hy
    have h1 := List.all_eq_true.1 this x hx
    exact of_decide_eq_true (List.all_eq_true.1 h1 y hy)
  have hlen : (newD 4 5).2.2.1.length = 20 := by decide +kernel
  have hc : chkM (newD 4 5) = 0 := by decide +kernel
  have hg : GoodD (newD 4 5) := by
    refine ⟨by omega, by omega, ?_, hby⟩
    have : (newD 4 5).2.2.1.all (fun x => decide (x.length = 128)) = true := by decide +kernel
    intro x hx
    exact of_decide_eq_true (List.all_eq_true.1 this x hx)
  rw [room61 _ hby (by omega) (fun _ => hg), hc]
  have hr : roomM (newD 4 5) = 10 := by decide +kernel
  rw [hr]; rfl
end Go.Proofs.Ytmfjebpdkgbggaa.V
