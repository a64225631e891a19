/- The pure statement of ImageSectors: disks of sectors are made, checked, copied, read and written alike. -/
import Derived.Test.YtlgbhaigpecdoaaVFnImageSectors
import Derived.Test.YtlgbhaigpecdoaaVKit
set_option linter.unusedVariables false
set_option linter.unusedSimpArgs false
namespace Go.Proofs.Ytlgbhaigpecdoaa.V
open Go

abbrev Disk := Int × (Int × (List (List Int) × Unit))
theorem eqB (a b : List Int) (h : a.length ≤ 140737488355328) : f24 a b = some ((decide (a = b), ()), ()) := by
  unfold f24 f24_k
  by_cases hl : a.length = b.length
  · have h0 : (((List.length a : Nat) : Int) != ((List.length b : Nat) : Int)) = false := by simp [hl]
    rw [h0]
    simp only [cond_false, f24_l4]
    rcases search (Y := Unit ⊕ Unit) (g := f24_l4_g a b ((List.length a : Nat) : Int)) a.length (fun j => a.getD j 0 != b.getD j 0) (fun _ => .inl ()) (.inr ()) (fun j hj => by
      have e1 : decide ((j : Int) < (a.length : Int)) = true := by simp; omega
      unfold f24_l4_g f24_l4_k
      rw [e1]
      simp only [cond_true]
      rw [if_pos ⟨by omega, by omega⟩, if_pos ⟨by omega, by omega⟩, wi (by omega) (by omega)]
      simp only [Int.toNat_natCast]
      cases hc : (a.getD j 0 != b.getD j 0) <;> simp [hc]) (by
      unfold f24_l4_g f24_l4_k
      simp) with ⟨m, h1, h2, h3, e⟩ | ⟨h1, e⟩
    · rw [e]
      simp only [some_bind, Sum.elim_inl]
      rw [decide_eq_false]
      intro hh; subst hh; simp at h2
    · rw [e]
      simp only [some_bind, Sum.elim_inr]
      rw [decide_eq_true]
      exact getD_ext 0 hl fun j hj => by simpa using h1 j hj
  · have h0 : (((List.length a : Nat) : Int) != ((List.length b : Nat) : Int)) = true := by simp; omega
    rw [h0]
    simp only [cond_true]
    rw [decide_eq_false]
    intro hh; exact hl (by rw [hh])
theorem eqD (a b : List (List Int)) (h : a.length ≤ 140737488355328) (hb : ∀ x ∈ a, x.length ≤ 140737488355328) : f73 a b () = some ((decide (a = b), ()), ()) := by
  unfold f73 f73_k
  by_cases hl : a.length = b.length
  · have h0 : (((List.length a : Nat) : Int) != ((List.length b : Nat) : Int)) = false := by simp [hl]
    rw [h0]
    simp only [cond_false, f73_l4]
    rcases search (Y := Unit ⊕ Unit) (g := f73_l4_g b a ((List.length a : Nat) : Int)) a.length (fun j => !decide (a.getD j [] = b.getD j [])) (fun _ => .inl ()) (.inr ()) (fun j hj => by
      have e1 : decide ((j : Int) < (a.length : Int)) = true := by simp; omega
      unfold f73_l4_g f73_l4_k
      rw [e1]
      simp only [cond_true]
      rw [if_pos ⟨by omega, by omega⟩, if_pos ⟨by omega, by omega⟩, wi (by omega) (by omega)]
      simp only [Int.toNat_natCast, f74, f74_k]
      rw [eqB _ _ (hb _ (getD_mem hj))]
      simp only [some_bind]
      cases hc : decide (a.getD j [] = b.getD j []) <;> simp [hc]) (by
      unfold f73_l4_g f73_l4_k
      simp) with ⟨m, h1, h2, h3, e⟩ | ⟨h1, e⟩
    · rw [e]
      simp only [some_bind, Sum.elim_inl]
      rw [decide_eq_false]
      intro hh; subst hh; simp at h2
    · rw [e]
      simp only [some_bind, Sum.elim_inr]
      rw [decide_eq_true]
      exact getD_ext [] hl fun j hj => by simpa using h1 j hj
  · have h0 : (((List.length a : Nat) : Int) != ((List.length b : Nat) : Int)) = true := by simp; omega
    rw [h0]
    simp only [cond_true]
    rw [decide_eq_false]
    intro hh; exact hl (by rw [hh])
/-- A row that is not 128 long. -/
theorem anyLen (a : List (List Int)) (h : a.length ≤ 140737488355328) : f22 a () = some ((a.any (fun x => x.length != 128), ()), ()) := by
  unfold f22 f22_k f77 f77_k
  simp only [f77_l2]
  rcases search (Y := Int ⊕ Unit) (g := f77_l2_g a ((List.length a : Nat) : Int)) a.length (fun j => (a.getD j []).length != 128) (fun m => .inl (m : Int)) (.inr ()) (fun j hj => by
    have e1 : decide ((j : Int) < (a.length : Int)) = true := by simp; omega
    unfold f77_l2_g f77_l2_k
    rw [e1]
    simp only [cond_true]
    rw [if_pos ⟨by omega, by omega⟩, wi (by omega) (by omega)]
    simp only [Int.toNat_natCast, f72, f72_k, some_bind]
    have e2 : ((((a.getD j []).length : Nat) : Int) != 128) = ((a.getD j []).length != 128) := by
      rw [Bool.eq_iff_iff]; simp; omega
    rw [e2]
    cases hc : ((a.getD j []).length != 128) <;> simp [hc]) (by
    unfold f77_l2_g f77_l2_k
    simp) with ⟨m, h1, h2, h3, e⟩ | ⟨h1, e⟩
  · rw [e]
    simp only [some_bind, Sum.elim_inl]
    have : a.any (fun x => x.length != 128) = true := List.any_eq_true.2 ⟨_, getD_mem (d := []) h1, h2⟩
    rw [this]
    simp
  · rw [e]
    simp only [some_bind, Sum.elim_inr]
    have : a.any (fun x => x.length != 128) = false := by
      rw [List.any_eq_false]
      intro x hx
      obtain ⟨j, hj, rfl⟩ := mem_getD [] hx
      simpa using h1 j hj
    rw [this]
    simp
def chkD (d : Disk) : Int := if d.1 < 1 ∨ d.1 > 20 ∨ d.2.1 < 1 ∨ d.2.1 > 12 then 1 else if (d.2.2.1.length : Int) ≠ d.1 * d.2.1 then 3 else if d.2.2.1.any (fun x => x.length != 128) = true then 3 else 0
theorem check16 (d : Disk) (h : d.2.2.1.length ≤ 140737488355328) : f16 d = some ((chkD d, ()), ()) := by
  unfold f16 f16_k chkD
  by_cases c1 : d.1 < 1
  · simp [c1]
  by_cases c2 : d.1 > 20
  · simp [c1, c2]
  by_cases c3 : d.2.1 < 1
  · simp [c1, c2, c3]
  by_cases c4 : d.2.1 > 12
  · simp [c1, c2, c3, c4]
  have hm : 1 ≤ d.1 * d.2.1 ∧ d.1 * d.2.1 ≤ 240 := by
    have a1 : 1 ≤ d.1 := by omega
    have a2 : d.1 ≤ 20 := by omega
    have b1 : 1 ≤ d.2.1 := by omega
    have b2 : d.2.1 ≤ 12 := by omega
    constructor
    · have := Int.mul_le_mul a1 b1 (by omega) (by omega); omega
    · have := Int.mul_le_mul a2 b2 (by omega) (by omega); omega
  rw [if_neg (by omega)]
  rw [decide_eq_false c1, decide_eq_false c2, decide_eq_false c3, decide_eq_false c4]
  simp only [cond_false]
  rw [wi (by omega) (by omega)]
  by_cases c5 : (d.2.2.1.length : Int) = d.1 * d.2.1
  · have e0 : ((((List.length d.2.2.1 : Nat) : Int)) != d.1 * d.2.1) = false := by simp [c5]
    rw [e0, if_neg (by omega)]
    simp only [cond_false, f16_l6]
    rcases search (Y := Unit ⊕ Unit) (g := f16_l6_g d.2.2.1 ((List.length d.2.2.1 : Nat) : Int)) d.2.2.1.length (fun j => (d.2.2.1.getD j []).length != 128) (fun m => .inl ()) (.inr ()) (fun j hj => by
      have e1 : decide ((j : Int) < (d.2.2.1.length : Int)) = true := by simp; omega
      unfold f16_l6_g f16_l6_k
      rw [e1]
      simp only [cond_true]
      rw [if_pos ⟨by omega, by omega⟩, wi (by omega) (by omega)]
      simp only [Int.toNat_natCast]
      have e2 : ((((d.2.2.1.getD j []).length : Nat) : Int) != 128) = ((d.2.2.1.getD j []).length != 128) := by
        rw [Bool.eq_iff_iff]; simp; omega
      rw [e2]
      cases hc : ((d.2.2.1.getD j []).length != 128) <;> simp [hc]) (by
      unfold f16_l6_g f16_l6_k
      simp) with ⟨m, h1, h2, h3, e⟩ | ⟨h1, e⟩
    · rw [e]
      simp only [some_bind, Sum.elim_inl]
      have : d.2.2.1.any (fun x => x.length != 128) = true := List.any_eq_true.2 ⟨_, getD_mem (d := []) h1, h2⟩
      rw [if_pos this]
    · rw [e]
      simp only [some_bind, Sum.elim_inr]
      have : d.2.2.1.any (fun x => x.length != 128) = false := by
        rw [List.any_eq_false]
        intro x hx
        obtain ⟨j, hj, rfl⟩ := mem_getD [] hx
        simpa using h1 j hj
      rw [if_neg (by simp [this])]
  · have e0 : ((((List.length d.2.2.1 : Nat) : Int)) != d.1 * d.2.1) = true := by simp [c5]
    rw [e0, if_pos c5]
    rfl
theorem check17 (d : Disk) (h : d.2.2.1.length ≤ 140737488355328) (w1 : d.1 ≤ 9223372036854775807) : f17 d = some ((chkD d, ()), ()) := by
  unfold f17 f17_k chkD
  simp only
  by_cases c0 : d.1 < 1 ∨ d.2.1 < 1
  · have : (if d.2.1 < d.1 then d.2.1 else d.1) < 1 := by split <;> omega
    rw [decide_eq_true this, if_pos (by omega)]
    rfl
  have : ¬ (if d.2.1 < d.1 then d.2.1 else d.1) < 1 := by split <;> omega
  rw [decide_eq_false this]
  simp only [cond_false]
  by_cases c2 : d.1 > 20
  · rw [decide_eq_true c2, if_pos (by omega)]; rfl
  by_cases c4 : d.2.1 > 12
  · rw [decide_eq_false c2, decide_eq_true c4, if_pos (by omega)]; rfl
  have hm : 1 ≤ d.1 * d.2.1 ∧ d.1 * d.2.1 ≤ 240 := by
    have a1 : 1 ≤ d.1 := by omega
    have a2 : d.1 ≤ 20 := by omega
    have b1 : 1 ≤ d.2.1 := by omega
    have b2 : d.2.1 ≤ 12 := by omega
    constructor
    · have := Int.mul_le_mul a1 b1 (by omega) (by omega); omega
    · have := Int.mul_le_mul a2 b2 (by omega) (by omega); omega
  rw [if_neg (by omega), decide_eq_false c2, decide_eq_false c4]
  simp only [cond_false]
  rw [Int.mul_comm d.2.1 d.1, wi (by omega) (by omega)]
  by_cases c5 : (d.2.2.1.length : Int) = d.1 * d.2.1
  · have e0 : ((((List.length d.2.2.1 : Nat) : Int)) != d.1 * d.2.1) = false := by simp [c5]
    rw [e0, if_neg (by omega)]
    simp only [cond_false]
    rw [anyLen _ h]
    simp only [some_bind]
    cases hc : d.2.2.1.any (fun x => x.length != 128) <;> simp
  · have e0 : ((((List.length d.2.2.1 : Nat) : Int)) != d.1 * d.2.1) = true := by simp [c5]
    rw [e0, if_pos c5]
    rfl
theorem same18 (d e : Disk) (h : d.2.2.1.length ≤ 140737488355328) (hb : ∀ x ∈ d.2.2.1, x.length ≤ 140737488355328) : f18 d e = some ((decide (d = e), ()), ()) := by
  obtain ⟨d1, d2, d3, ⟨⟩⟩ := d
  obtain ⟨e1, e2, e3, ⟨⟩⟩ := e
  unfold f18 f18_k
  simp only at h hb ⊢
  by_cases c1 : d1 = e1
  · by_cases c2 : d2 = e2
    · rw [eqD _ _ h hb]
      subst c1; subst c2
      simp
    · subst c1; rw [show (d2 == e2) = false from beq_eq_false_iff_ne.2 c2]; simp [c2]
  · rw [show (d1 == e1) = false from beq_eq_false_iff_ne.2 c1]; simp [c1]
def bytesD (d : Disk) : Prop := ∀ x ∈ d.2.2.1, ∀ y ∈ x, 0 ≤ y ∧ y < 256
theorem same19 (d e : Disk) (h : d.2.2.1.length ≤ 140737488355328) (hd : bytesD d) (he : bytesD e) : f19 d e = some ((decide (d = e), ()), ()) := by
  obtain ⟨d1, d2, d3, ⟨⟩⟩ := d
  obtain ⟨e1, e2, e3, ⟨⟩⟩ := e
  unfold f19 f19_k
  simp only [bytesD] at h hd he ⊢
  by_cases c1 : d1 = e1
  · by_cases c2 : d2 = e2
    · subst c1; subst c2
      have h1 : (d1 != d1) = false := by simp
      have h2 : (d2 != d2) = false := by simp
      rw [h1, h2]
      simp only [cond_false]
      by_cases hl : d3.length = e3.length
      · have h0 : (((List.length d3 : Nat) : Int) != ((List.length e3 : Nat) : Int)) = false := by simp [hl]
        rw [h0]
        simp only [cond_false, f19_l4]
        rcases search (Y := Unit ⊕ Unit) (g := f19_l4_g ((List.length d3 : Nat) : Int) (d1, d2, d3, ()) (d1, d2, e3, ())) d3.length (fun j => !decide (d3.getD j [] = e3.getD j [])) (fun _ => .inl ()) (.inr ()) (fun j hj => by
          have e1 : decide ((j : Int) < (d3.length : Int)) = true := by simp; omega
          unfold f19_l4_g f19_l4_k
          rw [e1]
          simp only [cond_true]
          rw [if_pos ⟨by omega, by omega⟩, if_pos ⟨by omega, by omega⟩, wi (by omega) (by omega)]
          simp only [Int.toNat_natCast]
          rw [strEq_b2s (hd _ (getD_mem hj)) (he _ (getD_mem (by omega)))]
          cases hc : decide (d3.getD j [] = e3.getD j []) <;> simp [hc]) (by
          unfold f19_l4_g f19_l4_k
          simp) with ⟨m, h1, h2, h3, e⟩ | ⟨h1, e⟩
        · rw [e]
          simp only [some_bind, Sum.elim_inl]
          rw [decide_eq_false]
          intro hh; cases hh; simp at h2
        · rw [e]
          simp only [some_bind, Sum.elim_inr]
          have : d3 = e3 := getD_ext [] hl fun j hj => by simpa using h1 j hj
          simp [this]
      · have h0 : (((List.length d3 : Nat) : Int) != ((List.length e3 : Nat) : Int)) = true := by simp; omega
        rw [h0]
        simp only [cond_true]
        rw [decide_eq_false]
        intro hh; cases hh; exact hl rfl
    · have h1 : (d1 != e1) = false := by simp [c1]
      have h2 : (d2 != e2) = true := by simp [c2]
      rw [h1, h2]
      simp [c2]
  · have h1 : (d1 != e1) = true := by simp [c1]
    rw [h1]
    simp [c1]
theorem clone76 (a : List Int) (h : a.length ≤ 140737488355328) : f76 a = some ((a, ()), ()) := by
  unfold f76 f76_k
  rw [if_pos ⟨by rw [most_eq]; omega, by decide, by decide⟩]
  cases a with
  | nil => exact nilT_same _ _
  | cons x l => rfl
theorem clone75 (a : List (List Int)) (h : a.length * 24 ≤ 140737488355328) : f75 a = some ((a, ()), ()) := by
  unfold f75 f75_k
  rw [if_pos ⟨by rw [most_eq]; omega, by decide, by decide⟩]
  cases a with
  | nil => exact nilT_same _ _
  | cons x l => rfl
structure Fit (d : Disk) : Prop where
  len : d.2.2.1.length * 24 ≤ 140737488351232
  row : ∀ x ∈ d.2.2.1, x.length ≤ 140737488351232
theorem copy20 (d : Disk) (h : Fit d) : f20 d = some ((d, ()), ()) := by
  unfold f20 f20_k
  have hl := h.len
  rw [clone75 _ (by omega)]
  simp only [some_bind, f20_l3]
  have e := loop_at (g := f20_l3_g ((List.length d.2.2.1 : Nat) : Int) ((0 : Int), ((0 : Int), (([] : List (List Int)), ())))) (fun j => ((j : Int), (d.1, (d.2.1, (d.2.2.1, d.2.2.2))))) d.2.2.1.length (y := d) (fun j hj => by
    have e1 : decide ((j : Int) < (d.2.2.1.length : Int)) = true := by simp; omega
    unfold f20_l3_g f20_l3_k
    simp only
    rw [e1]
    simp only [cond_true]
    rw [if_pos ⟨by omega, by omega⟩]
    simp only [Int.toNat_natCast]
    rw [clone76 _ (by have := h.row _ (getD_mem (d := []) hj); omega)]
    simp only [some_bind]
    rw [if_pos ⟨by omega, by omega⟩, wi (by omega) (by omega), set_getD hj]
    rfl) (by
    unfold f20_l3_g f20_l3_k
    simp)
  have e' : loopO (f20_l3_g ((List.length d.2.2.1 : Nat) : Int) ((0 : Int), ((0 : Int), (([] : List (List Int)), ())))) ((0 : Int), (d.1, (d.2.1, (d.2.2.1, d.2.2.2)))) = some d := e
  rw [e']
  rfl

def bad (a b : Int) : Bool := decide (a < 1 ∨ a > 20 ∨ b < 1 ∨ b > 12)
theorem area {a b : Int} (h : bad a b = false) : 1 ≤ a ∧ a ≤ 20 ∧ 1 ≤ b ∧ b ≤ 12 ∧ 1 ≤ a * b ∧ a * b ≤ 240 := by
  have h : ¬ (a < 1 ∨ a > 20 ∨ b < 1 ∨ b > 12) := by simpa [bad] using h
  have a1 : 1 ≤ a := by omega
  have a2 : a ≤ 20 := by omega
  have b1 : 1 ≤ b := by omega
  have b2 : b ≤ 12 := by omega
  have := Int.mul_le_mul a1 b1 (by omega) (by omega)
  have := Int.mul_le_mul a2 b2 (by omega) (by omega)
  exact ⟨a1, a2, b1, b2, by omega, by omega⟩
def blankD (a b : Int) : Disk := (a, (b, (List.replicate (a * b).toNat (List.replicate 128 (0 : Int)), ())))
theorem new21 (a b : Int) : f21 a b = some (if bad a b = true then (((0, (0, ([], ()))), (1, ())), ()) else ((blankD a b, (0, ())), ())) := by
  unfold f21 f21_k
  by_cases c1 : a < 1
  · have hb : bad a b = true := by simp [bad, c1]
    rw [hb, decide_eq_true c1]; rfl
  by_cases c2 : a > 20
  · have hb : bad a b = true := by simp [bad, c2]
    rw [hb, decide_eq_false c1, decide_eq_true c2]; rfl
  by_cases c3 : b < 1
  · have hb : bad a b = true := by simp [bad, c3]
    rw [hb, decide_eq_false c1, decide_eq_false c2, decide_eq_true c3]; rfl
  by_cases c4 : b > 12
  · have hb : bad a b = true := by simp [bad, c4]
    rw [hb, decide_eq_false c1, decide_eq_false c2, decide_eq_false c3, decide_eq_true c4]; rfl
  have hb : bad a b = false := by simp [bad, c1, c2, c3, c4]
  obtain ⟨a1, a2, b1, b2, m1, m2⟩ := area hb
  rw [hb, decide_eq_false c1, decide_eq_false c2, decide_eq_false c3, decide_eq_false c4]
  simp only [cond_false, f21_l5]
  rw [wi (by omega) (by omega)]
  obtain ⟨n, hn⟩ : ∃ n : Nat, a * b = (n : Int) := ⟨(a * b).toNat, by omega⟩
  rw [hn]
  have e := loop_at (g := f21_l5_g (n : Int) ((0 : Int), ((0 : Int), (([] : List (List Int)), ())))) (fun j => ((j : Int), (a, (b, (List.replicate j (List.replicate 128 (0 : Int)), ()))))) n (y := (a, (b, (List.replicate n (List.replicate 128 (0 : Int)), ())))) (fun j hj => by
    have e1 : decide ((j : Int) < (n : Int)) = true := by simp; omega
    unfold f21_l5_g f21_l5_k
    simp only
    rw [e1]
    simp only [cond_true, List.length_replicate]
    rw [if_pos ⟨by rw [most_eq]; omega, by decide, by decide⟩, wi (by omega) (by omega)]
    rw [List.replicate_succ' (n := j)]
    rfl) (by
    unfold f21_l5_g f21_l5_k
    simp)
  have e' : loopO (f21_l5_g (n : Int) ((0 : Int), ((0 : Int), (([] : List (List Int)), ())))) ((0 : Int), (a, (b, ([], ())))) = some (a, (b, (List.replicate n (List.replicate 128 (0 : Int)), ()))) := e
  rw [e']
  simp [blankD, hn]
theorem zeros77 (a : List (List Int)) (h : a.length ≤ 140737488355328) (hb : ∀ x ∈ a, x.length ≤ 140737488355328) (hz : ∀ x ∈ a, x = List.replicate 128 (0 : Int)) : f22x1 a () = some ((false, ()), ()) := by
  unfold f22x1 f22x1_k f77x1 f77x1_k
  simp only [f77x1_l2]
  rcases search (Y := Int ⊕ Unit) (g := f77x1_l2_g a ((List.length a : Nat) : Int)) a.length (fun j => !decide (a.getD j [] = List.replicate 128 (0 : Int))) (fun m => .inl (m : Int)) (.inr ()) (fun j hj => by
    have e1 : decide ((j : Int) < (a.length : Int)) = true := by simp; omega
    unfold f77x1_l2_g f77x1_l2_k
    rw [e1]
    simp only [cond_true]
    rw [if_pos ⟨by omega, by omega⟩, wi (by omega) (by omega)]
    simp only [Int.toNat_natCast, f23, f23_k]
    rw [eqB _ _ (hb _ (getD_mem hj))]
    simp only [some_bind]
    cases hc : decide (a.getD j [] = List.replicate 128 (0 : Int)) <;> simp [hc]) (by
    unfold f77x1_l2_g f77x1_l2_k
    simp) with ⟨m, h1, h2, h3, e⟩ | ⟨h1, e⟩
  · have := hz _ (getD_mem (d := []) h1)
    have h2' : (!decide (a.getD m [] = List.replicate 128 (0 : Int))) = true := h2
    rw [decide_eq_true this] at h2'
    cases h2'
  · rw [e]; simp
theorem chk_blank {a b : Int} (h : bad a b = false) : chkD (blankD a b) = 0 := by
  obtain ⟨a1, a2, b1, b2, m1, m2⟩ := area h
  unfold chkD blankD
  simp only [List.length_replicate]
  rw [if_neg (by omega), if_neg (by omega), if_neg]
  simp
theorem begun15 : f15 = some ((true, ()), ()) := by
  unfold f15 f15_k
  rw [new21]
  have hb : bad 2 3 = false := by decide
  simp only [hb, Bool.false_eq_true, if_false, some_bind]
  rw [check16 _ (by simp [blankD]), chk_blank hb]
  simp only [some_bind]
  rw [check16 _ (by simp)]
  simp [blankD, chkD]
def placeD (d : Disk) (t n : Int) : Int := if chkD d ≠ 0 then chkD d else if t < 0 ∨ t ≥ d.1 ∨ n < 0 ∨ n ≥ d.2.1 then 19 else 0
theorem chk_zero {d : Disk} (h : chkD d = 0) : 1 ≤ d.1 ∧ d.1 ≤ 20 ∧ 1 ≤ d.2.1 ∧ d.2.1 ≤ 12 ∧ (d.2.2.1.length : Int) = d.1 * d.2.1 ∧ d.1 * d.2.1 ≤ 240 ∧ ∀ x ∈ d.2.2.1, x.length = 128 := by
  unfold chkD at h
  split at h
  · cases h
  · split at h
    · cases h
    · split at h
      · cases h
      · rename_i c1 c2 c3
        have a2 : d.1 ≤ 20 := by omega
        have b2 : d.2.1 ≤ 12 := by omega
        have := Int.mul_le_mul a2 b2 (by omega) (by omega)
        refine ⟨by omega, by omega, by omega, by omega, by omega, by omega, fun x hx => ?_⟩
        have c3 : d.2.2.1.any (fun x => x.length != 128) = false := by simpa using c3
        rw [List.any_eq_false] at c3
        simpa using c3 x hx
theorem at_bound {d : Disk} {t n : Int} (h : chkD d = 0) (h2 : ¬ (t < 0 ∨ t ≥ d.1 ∨ n < 0 ∨ n ≥ d.2.1)) : 0 ≤ t * d.2.1 ∧ 0 ≤ t * d.2.1 + n ∧ t * d.2.1 + n < d.2.2.1.length ∧ t * d.2.1 + n < 240 := by
  obtain ⟨a1, a2, b1, b2, e, m, _⟩ := chk_zero h
  have p1 : 0 ≤ t * d.2.1 := Int.mul_nonneg (by omega) (by omega)
  have p2 : (t + 1) * d.2.1 ≤ d.1 * d.2.1 := Int.mul_le_mul_of_nonneg_right (by omega) (by omega)
  rw [Int.add_mul] at p2
  exact ⟨p1, by omega, by omega, by omega⟩
theorem place78 (d : Disk) (h : d.2.2.1.length ≤ 140737488355328) (t n : Int) : f78 d t n = some ((if placeD d t n = 0 then t * d.2.1 + n else 0, (placeD d t n, ())), ()) := by
  unfold f78 f78_k
  rw [check16 d h]
  simp only [some_bind]
  by_cases c0 : chkD d = 0
  · have h0 : (chkD d != 0) = false := by simp [c0]
    rw [h0]
    have bad : (t < 0 ∨ t ≥ d.1 ∨ n < 0 ∨ n ≥ d.2.1) → placeD d t n = 19 := fun hh => by unfold placeD; rw [if_neg (by omega), if_pos hh]
    simp only [cond_false]
    by_cases c1 : t < 0
    · rw [bad (by omega), decide_eq_true c1]; rfl
    by_cases c2 : t ≥ d.1
    · rw [bad (by omega), decide_eq_false c1, decide_eq_true c2]; rfl
    by_cases c3 : n < 0
    · rw [bad (by omega), decide_eq_false c1, decide_eq_false c2, decide_eq_true c3]; rfl
    by_cases c4 : n ≥ d.2.1
    · rw [bad (by omega), decide_eq_false c1, decide_eq_false c2, decide_eq_false c3, decide_eq_true c4]; rfl
    have good : placeD d t n = 0 := by unfold placeD; rw [if_neg (by omega), if_neg (by omega)]
    rw [good, decide_eq_false c1, decide_eq_false c2, decide_eq_false c3, decide_eq_false c4]
    obtain ⟨p1, p2, p3, p4⟩ := at_bound (t := t) (n := n) c0 (by omega)
    obtain ⟨_, _, _, q, _⟩ := chk_zero c0
    simp only [cond_false, if_true]
    rw [wi (n := t * d.2.1) (by omega) (by omega), wi (by omega) (by omega)]
  · have h0 : (chkD d != 0) = true := by simp [c0]
    have hp : placeD d t n = chkD d := by unfold placeD; rw [if_pos c0]
    rw [h0, hp, if_neg c0]
    rfl
theorem place_zero {d : Disk} {t n : Int} (h : placeD d t n = 0) : chkD d = 0 ∧ ¬ (t < 0 ∨ t ≥ d.1 ∨ n < 0 ∨ n ≥ d.2.1) := by
  unfold placeD at h
  split at h
  · rename_i c; exact absurd h c
  · split at h
    · cases h
    · rename_i c1 c2; exact ⟨by omega, c2⟩
def ixD (d : Disk) (t n : Int) : Nat := (t * d.2.1 + n).toNat
theorem get25 (d : Disk) (h : Fit d) (t n : Int) : f25 d t n = some ((if placeD d t n = 0 then d.2.2.1.getD (ixD d t n) [] else [], (placeD d t n, ())), ()) := by
  unfold f25 f25_k
  have hl := h.len
  rw [place78 d (by omega)]
  simp only [some_bind]
  by_cases c : placeD d t n = 0
  · obtain ⟨c0, c1⟩ := place_zero c
    obtain ⟨p1, p2, p3, p4⟩ := at_bound (t := t) (n := n) c0 c1
    have h0 : (placeD d t n != 0) = false := by simp [c]
    rw [h0]
    simp only [cond_false, c, if_true]
    rw [if_pos ⟨by omega, by omega⟩, clone76]
    · rfl
    · have := h.row _ (getD_mem (d := []) (show (t * d.2.1 + n).toNat < d.2.2.1.length by omega)); omega
  · have h0 : (placeD d t n != 0) = true := by simp [c]
    rw [h0]
    simp [c]
def putErr (d : Disk) (t n : Int) (b : List Int) : Int := if placeD d t n ≠ 0 then placeD d t n else if b.length ≠ 128 then 3 else 0
def putD (d : Disk) (t n : Int) (b : List Int) : Disk := if putErr d t n b = 0 then (d.1, (d.2.1, (d.2.2.1.set (ixD d t n) b, ()))) else (0, (0, ([], ())))
theorem put26 (d : Disk) (h : Fit d) (t n : Int) (b : List Int) (hb : b.length ≤ 140737488351232) : f26 d t n b = some ((putD d t n b, (putErr d t n b, ())), ()) := by
  unfold f26 f26_k
  have hl := h.len
  rw [place78 d (by omega)]
  simp only [some_bind]
  by_cases c : placeD d t n = 0
  · obtain ⟨c0, c1⟩ := place_zero c
    obtain ⟨p1, p2, p3, p4⟩ := at_bound (t := t) (n := n) c0 c1
    have h0 : (placeD d t n != 0) = false := by simp [c]
    rw [h0]
    simp only [cond_false, c, if_true]
    by_cases cb : b.length = 128
    · have h1 : (((List.length b : Nat) : Int) != 128) = false := by simp; omega
      have e0 : putErr d t n b = 0 := by simp [putErr, c, cb]
      rw [h1]
      simp only [cond_false]
      rw [copy20 d h, clone76 b (by omega)]
      simp only [some_bind]
      rw [if_pos ⟨by omega, by omega⟩]
      simp [putD, e0, ixD]
    · have h1 : (((List.length b : Nat) : Int) != 128) = true := by simp; omega
      have e0 : putErr d t n b = 3 := by simp [putErr, c, cb]
      rw [h1]
      simp [putD, e0]
  · have h0 : (placeD d t n != 0) = true := by simp [c]
    have e0 : putErr d t n b = placeD d t n := by simp [putErr, c]
    rw [h0]
    simp [putD, e0, c]

theorem grow79 (n : Int) (h : 0 ≤ n ∧ n * 24 ≤ 140737488355328) : f79 () n = some (([], ()), ()) := by
  unfold f79 f79_k
  rw [decide_eq_false (show ¬ n < 0 by omega)]
  simp only [cond_false, Int.sub_zero]
  rw [wi (by omega) (by omega)]
  by_cases h0 : n > 0
  · rw [decide_eq_true h0]
    simp only [cond_true, List.length_replicate]
    have em : (most : Int) = 140737488355328 := rfl
    rw [if_pos ⟨h0, by rw [em]; omega, by decide, by decide⟩, if_pos ⟨by omega, by omega, by omega⟩]
    rfl
  · rw [decide_eq_false h0]; rfl
theorem concat27 (x y z : List (List Int)) (h : (x.length + y.length + z.length) * 24 ≤ 140737488355328) : f27 [x, y, z] = some ((x ++ y ++ z, ()), ()) := by
  unfold f27 f27_k
  have e1 : f27_l3 [x, y, z] [x, y, z] ((List.length [x, y, z] : Nat) : Int) ((0 : Int), (0 : Int)) = some ((x.length + y.length + z.length : Nat) : Int) := by
    unfold f27_l3
    have := loop_at (g := f27_l3_g [x, y, z] [x, y, z] ((List.length [x, y, z] : Nat) : Int)) (fun j => match j with | 0 => ((0 : Int), (0 : Int)) | 1 => ((x.length : Int), 1) | 2 => (((x.length + y.length : Nat) : Int), 2) | _ => (((x.length + y.length + z.length : Nat) : Int), 3)) 3 (y := ((x.length + y.length + z.length : Nat) : Int)) (fun j hj => by
      match j, hj with
      | 0, _ =>
        unfold f27_l3_g f27_l3_k
        simp only [List.length_cons, List.length_nil]
        rw [decide_eq_true (by omega)]
        simp only [cond_true]
        rw [if_pos (by omega)]
        simp only [Int.toNat_zero, List.getD_cons_zero]
        rw [wi (by omega) (by omega), decide_eq_false (by omega)]
        simp only [cond_false]
        rw [wi (by omega) (by omega)]
        simp
      | 1, _ =>
        unfold f27_l3_g f27_l3_k
        simp only [List.length_cons, List.length_nil]
        rw [decide_eq_true (by omega)]
        simp only [cond_true]
        rw [if_pos (by omega)]
        have : (List.getD [x, y, z] (Int.toNat 1) ([] : List (List Int))) = y := rfl
        rw [this, wi (by omega) (by omega), decide_eq_false (by omega)]
        simp only [cond_false]
        rw [wi (by omega) (by omega)]
        simp
      | 2, _ =>
        unfold f27_l3_g f27_l3_k
        simp only [List.length_cons, List.length_nil]
        rw [decide_eq_true (by omega)]
        simp only [cond_true]
        rw [if_pos (by omega)]
        have : (List.getD [x, y, z] (Int.toNat 2) ([] : List (List Int))) = z := rfl
        rw [this, wi (by omega) (by omega), decide_eq_false (by omega)]
        simp only [cond_false]
        rw [wi (by omega) (by omega)]
        simp) (by
      unfold f27_l3_g f27_l3_k
      simp)
    exact this
  rw [e1]
  simp only [some_bind]
  rw [grow79 _ ⟨by omega, by omega⟩]
  simp only [some_bind]
  have e2 : f27_l11 [x, y, z] ((List.length [x, y, z] : Nat) : Int) ((0 : Int), ([] : List (List Int))) = some (x ++ y ++ z) := by
    unfold f27_l11
    have := loop_at (g := f27_l11_g [x, y, z] ((List.length [x, y, z] : Nat) : Int)) (fun j => match j with | 0 => ((0 : Int), ([] : List (List Int))) | 1 => ((1 : Int), x) | 2 => ((2 : Int), x ++ y) | _ => ((3 : Int), x ++ y ++ z)) 3 (y := x ++ y ++ z) (fun j hj => by
      match j, hj with
      | 0, _ =>
        unfold f27_l11_g f27_l11_k
        simp only [List.length_cons, List.length_nil]
        rw [decide_eq_true (by omega)]
        simp only [cond_true]
        rw [if_pos (by omega)]
        simp only [Int.toNat_zero, List.getD_cons_zero]
        rw [if_pos ⟨by rw [most_eq]; omega, by decide, by decide⟩, wi (by omega) (by omega)]
        rfl
      | 1, _ =>
        unfold f27_l11_g f27_l11_k
        simp only [List.length_cons, List.length_nil]
        rw [decide_eq_true (by omega)]
        simp only [cond_true]
        rw [if_pos (by omega)]
        have : (List.getD [x, y, z] (Int.toNat 1) ([] : List (List Int))) = y := rfl
        rw [this, if_pos ⟨by rw [most_eq]; omega, by decide, by decide⟩, wi (by omega) (by omega)]
        rfl
      | 2, _ =>
        unfold f27_l11_g f27_l11_k
        simp only [List.length_cons, List.length_nil]
        rw [decide_eq_true (by omega)]
        simp only [cond_true]
        rw [if_pos (by omega)]
        have : (List.getD [x, y, z] (Int.toNat 2) ([] : List (List Int))) = z := rfl
        rw [this, if_pos ⟨by rw [most_eq, List.length_append]; omega, by decide, by decide⟩, wi (by omega) (by omega)]
        rfl) (by
      unfold f27_l11_g f27_l11_k
      simp)
    exact this
  rw [e2]
  rfl
theorem cut_set {a : List (List Int)} {j : Nat} (b : List Int) (h : j < a.length) : List.take j a ++ [b] ++ List.drop (j + 1) a = a.set j b := by
  rw [List.set_eq_take_append_cons_drop, if_pos h]
  simp
/-- What is asked of what was read and of what was written. -/
theorem asked14 (d : Disk) (hd : Fit d) (by8 : bytesD d) (t n : Int) (b : List Int) (hb : b.length ≤ 140737488351232) (hb8 : ∀ x ∈ b, 0 ≤ x ∧ x < 256) :
    f3_t14 t n b (placeD d t n) (putErr d t n b) (placeD d t n) d (putD d t n b) (if placeD d t n = 0 then d.2.2.1.getD (ixD d t n) [] else []) = some true := by
  unfold f3_t14 f3_t14_k
  have hl := hd.len
  by_cases c : placeD d t n = 0
  · obtain ⟨c0, c1⟩ := place_zero c
    obtain ⟨p1, p2, p3, p4⟩ := at_bound (t := t) (n := n) c0 c1
    obtain ⟨_, _, b1, b2, m1, m2, m3⟩ := chk_zero c0
    have h0 : (placeD d t n != 0) = false := by simp [c]
    have hix : ixD d t n < d.2.2.1.length := by unfold ixD; omega
    have en : (t * d.2.1 + n).toNat = ixD d t n := rfl
    rw [h0]
    simp only [cond_false]
    rw [Int.mul_comm d.2.1 t, wi (n := t * d.2.1) (by omega) (by omega), wi (by omega) (by omega), if_pos ⟨p2, p3⟩, if_pos c, en]
    rw [eqB _ _ (by have := hd.row _ (getD_mem (d := []) hix); omega)]
    simp only [some_bind, decide_true, Bool.not_true, cond_false]
    by_cases cb : b.length = 128
    · have h1 : (((List.length b : Nat) : Int) != 128) = false := by simp; omega
      have e0 : putErr d t n b = 0 := by simp [putErr, c, cb]
      rw [h1]
      simp only [cond_false]
      rw [if_pos ⟨by omega, by omega, by omega⟩, wi (by omega) (by omega), if_pos ⟨by omega, by omega, by omega⟩]
      have e3 : (t * d.2.1 + n + 1).toNat = ixD d t n + 1 := by unfold ixD; omega
      simp only [Int.toNat_natCast, Nat.sub_zero, List.drop_zero, e3]
      have e4 : List.take (d.2.2.1.length - (ixD d t n + 1)) (List.drop (ixD d t n + 1) d.2.2.1) = List.drop (ixD d t n + 1) d.2.2.1 := List.take_of_length_le (by rw [List.length_drop]; omega)
      rw [e4, concat27 _ _ _ (by simp only [List.length_take, List.length_drop, List.length_cons, List.length_nil]; omega), cut_set b hix]
      have h2 : (putErr d t n b == 0) = true := by simp [e0]
      simp only [some_bind]
      rw [h2]
      simp only [cond_true]
      have e5 : putD d t n b = (d.1, (d.2.1, (d.2.2.1.set (ixD d t n) b, ()))) := by unfold putD; rw [if_pos e0]
      have by5 : bytesD (d.1, (d.2.1, (d.2.2.1.set (ixD d t n) b, ()))) := by
        intro x hx
        rcases List.mem_or_eq_of_mem_set hx with hx | hx
        · exact by8 x hx
        · rw [hx]; exact hb8
      rw [e5, same19 _ _ (by simp only [List.length_set]; omega) by5 by5]
      simp
    · have h1 : (((List.length b : Nat) : Int) != 128) = true := by simp; omega
      have e0 : putErr d t n b = 3 := by simp [putErr, c, cb]
      rw [h1, e0]
      simp [putD, e0]
  · have h0 : (placeD d t n != 0) = true := by simp [c]
    have e0 : putErr d t n b = placeD d t n := by simp [putErr, c]
    rw [h0, e0, if_neg c]
    simp only [cond_true, beq_self_eq_true]
    have e5 : putD d t n b = (0, (0, ([], ()))) := by unfold putD; rw [e0, if_neg c]
    rw [e5]
    rfl
theorem asked9 (d : Disk) (hd : Fit d) (by8 : bytesD d) (w1 : d.1 ≤ 9223372036854775807) (t n : Int) (b : List Int) (hb : b.length ≤ 140737488351232) (hb8 : ∀ x ∈ b, 0 ≤ x ∧ x < 256) : f3_t9 t n b d = some true := by
  unfold f3_t9 f3_t9_k
  have hl := hd.len
  rw [get25 d hd, put26 d hd t n b hb, check17 d (by omega) w1]
  simp only [some_bind]
  have ask := asked14 d hd by8 t n b hb hb8
  by_cases c0 : chkD d = 0
  · have h0 : (chkD d == 0) = true := by simp [c0]
    rw [h0]
    simp only [cond_true]
    have bad : (t < 0 ∨ t ≥ d.1 ∨ n < 0 ∨ n ≥ d.2.1) → placeD d t n = 19 := fun hh => by unfold placeD; rw [if_neg (by omega), if_pos hh]
    by_cases c1 : t < 0
    · rw [decide_eq_true c1]
      have e := bad (by omega)
      rw [e] at ask ⊢
      simp only [cond_true]; rw [ask]; rfl
    by_cases c2 : t ≥ d.1
    · rw [decide_eq_false c1, decide_eq_true c2]
      have e := bad (by omega)
      rw [e] at ask ⊢
      simp only [cond_true, cond_false]; rw [ask]; rfl
    by_cases c3 : n < 0
    · rw [decide_eq_false c1, decide_eq_false c2, decide_eq_true c3]
      have e := bad (by omega)
      rw [e] at ask ⊢
      simp only [cond_true, cond_false]; rw [ask]; rfl
    by_cases c4 : n ≥ d.2.1
    · rw [decide_eq_false c1, decide_eq_false c2, decide_eq_false c3, decide_eq_true c4]
      have e := bad (by omega)
      rw [e] at ask ⊢
      simp only [cond_true, cond_false]; rw [ask]; rfl
    rw [decide_eq_false c1, decide_eq_false c2, decide_eq_false c3, decide_eq_false c4]
    have good : placeD d t n = chkD d := by unfold placeD; rw [if_neg (by omega), if_neg (by omega), c0]
    rw [good] at ask ⊢
    simp only [cond_false]; rw [ask]; rfl
  · have h0 : (chkD d == 0) = false := by simp [c0]
    rw [h0]
    have good : placeD d t n = chkD d := by unfold placeD; rw [if_pos c0]
    rw [good] at ask ⊢
    simp only [cond_false]; rw [ask]; rfl
theorem Pure.ImageSectors (x0 : den (.pair (.int .i64) (.pair (.int .i64) (.pair (.slc (.slc (.int .u8))) .unit)))) (x1 : den (.pair (.int .i64) (.pair (.int .i64) (.pair (.slc (.slc (.int .u8))) .unit)))) (x2 : Int) (x3 : Int) (x4 : Int) (x5 : Int) (x6 : den (.slc (.int .u8))) (w0 : ((Lit.int .i64 x0.1).wf = true) ∧ (((Lit.int .i64 x0.2.1).wf = true) ∧ ((∀ y0 ∈ x0.2.2.1, (∀ y1 ∈ y0, ((Lit.int .u8 y1).wf = true))) ∧ (True)))) (s0 : (True) ∧ ((True) ∧ ((List.length x0.2.2.1 * 24 ≤ 140737488351232 ∧ ∀ y0 ∈ x0.2.2.1, (List.length y0 * 1 ≤ 140737488351232 ∧ ∀ y1 ∈ y0, (True))) ∧ (True)))) (w1 : ((Lit.int .i64 x1.1).wf = true) ∧ (((Lit.int .i64 x1.2.1).wf = true) ∧ ((∀ y0 ∈ x1.2.2.1, (∀ y1 ∈ y0, ((Lit.int .u8 y1).wf = true))) ∧ (True)))) (s1 : (True) ∧ ((True) ∧ ((List.length x1.2.2.1 * 24 ≤ 140737488351232 ∧ ∀ y0 ∈ x1.2.2.1, (List.length y0 * 1 ≤ 140737488351232 ∧ ∀ y1 ∈ y0, (True))) ∧ (True)))) (w2 : (Lit.int .i64 x2).wf = true) (w3 : (Lit.int .i64 x3).wf = true) (w4 : (Lit.int .i64 x4).wf = true) (w5 : (Lit.int .i64 x5).wf = true) (w6 : ∀ y0 ∈ x6, ((Lit.int .u8 y0).wf = true)) (s6 : List.length x6 * 1 ≤ 140737488351232 ∧ ∀ y0 ∈ x6, (True)) : f3 x0 x1 x2 x3 x4 x5 x6 = some ((true, ()), ()) := by
  have fit0 : Fit x0 := ⟨s0.2.2.1.1, fun x hx => by have := (s0.2.2.1.2 x hx).1; omega⟩
  have fl := fit0.len
  have by0 : bytesD x0 := fun x hx y hy => wf_u8 (w0.2.2.1 x hx y hy)
  have by1 : bytesD x1 := fun x hx y hy => wf_u8 (w1.2.2.1 x hx y hy)
  have l0 : List.length x0.2.2.1 ≤ 140737488355328 := by omega
  have ask := asked9 x0 fit0 by0 (wf_i64 w0.1).2 x4 x5 x6 (by omega) (fun y hy => wf_u8 (w6 y hy))
  unfold f3 f3_k
  rw [begun15, check16 x0 l0, check17 x0 l0 (wf_i64 w0.1).2, same18 x0 x1 l0 (fun x hx => by have := fit0.row x hx; omega), same19 x0 x1 l0 by0 by1, copy20 x0 fit0]
  simp only [some_bind, Bool.not_true, cond_false, bne_self_eq_false, beq_self_eq_true]
  rw [same19 x0 x0 l0 by0 by0, new21]
  simp only [some_bind, decide_true, Bool.not_true, cond_false]
  rw [ask]
  by_cases hb : bad x2 x3 = true
  · have hb' : x2 < 1 ∨ x2 > 20 ∨ x3 < 1 ∨ x3 > 12 := by simpa [bad] using hb
    simp only [hb, if_true, some_bind]
    have e1 : ((1 : Int) != 1) = false := rfl
    have e2 : decide ((((List.length ([] : List (List Int)) : Nat) : Int)) > 0) = false := rfl
    rw [e1, e2]
    simp only [cond_false]
    by_cases c1 : x2 < 1
    · rw [decide_eq_true c1]; rfl
    by_cases c2 : x2 > 20
    · rw [decide_eq_false c1, decide_eq_true c2]; rfl
    by_cases c3 : x3 < 1
    · rw [decide_eq_false c1, decide_eq_false c2, decide_eq_true c3]; rfl
    have c4 : x3 > 12 := by omega
    rw [decide_eq_false c1, decide_eq_false c2, decide_eq_false c3, decide_eq_true c4]; rfl
  · have hb : bad x2 x3 = false := by simpa using hb
    obtain ⟨a1, a2, b1, b2, m1, m2⟩ := area hb
    simp only [hb, Bool.false_eq_true, if_false, some_bind]
    rw [decide_eq_false (show ¬ x2 < 1 by omega), decide_eq_false (show ¬ x2 > 20 by omega), decide_eq_false (show ¬ x3 < 1 by omega), decide_eq_false (show ¬ x3 > 12 by omega)]
    simp only [cond_false, bne_self_eq_false]
    have e1 : ((blankD x2 x3).1 != x2) = false := by simp [blankD]
    have e2 : ((blankD x2 x3).2.1 != x3) = false := by simp [blankD]
    rw [e1, e2, check17 _ (by simp only [blankD, List.length_replicate]; omega) (by simp only [blankD]; omega), chk_blank hb]
    simp only [cond_false, some_bind, bne_self_eq_false]
    rw [zeros77 (blankD x2 x3).2.2.1 (by simp only [blankD, List.length_replicate]; omega) (fun x hx => by
      have := List.eq_of_mem_replicate hx
      rw [this, List.length_replicate]; omega) (fun x hx => List.eq_of_mem_replicate hx)]
    rfl
end Go.Proofs.Ytlgbhaigpecdoaa.V
