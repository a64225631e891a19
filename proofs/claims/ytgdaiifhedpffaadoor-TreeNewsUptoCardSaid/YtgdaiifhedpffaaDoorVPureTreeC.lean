/- New trees. -/
import Derived.Test.YtgdaiifhedpffaaDoorVPureTreeB
set_option linter.unusedVariables false
set_option linter.unusedSimpArgs false
namespace Go.Proofs.YtgdaiifhedpffaaDoor.V
open Go
theorem set_getD2 {α : Type} {l : List α} {i r : Nat} {x d : α} (hi : i < l.length) : (l.set i x).getD r d = if i = r then x else l.getD r d := by
  rw [List.getD_eq_getElem?_getD, List.getElem?_set]
  by_cases e : i = r
  · rw [if_pos e, if_pos e, if_pos hi]; rfl
  · rw [if_neg e, if_neg e, ← List.getD_eq_getElem?_getD]
theorem sized13 (a b : Int) : f13 a b 6 = some ((if bad a b = true then 1 else if a * b ≤ 6 then 13 else 0, ()), ()) := by
  unfold f13 f13_k
  simp only
  by_cases c0 : a < 1 ∨ b < 1
  · have : (if b < a then b else a) < 1 := by split <;> omega
    have hb : bad a b = true := by unfold bad; exact decide_eq_true (by omega)
    rw [decide_eq_true this, if_pos hb]; rfl
  have : ¬ (if b < a then b else a) < 1 := by split <;> omega
  rw [decide_eq_false this]
  simp only [cond_false]
  by_cases c2 : a > 20
  · have hb : bad a b = true := by unfold bad; exact decide_eq_true (by omega)
    rw [decide_eq_true c2, if_pos hb]; rfl
  by_cases c4 : b > 12
  · have hb : bad a b = true := by unfold bad; exact decide_eq_true (by omega)
    rw [decide_eq_false c2, decide_eq_true c4, if_pos hb]; rfl
  have hb : bad a b = false := by unfold bad; exact decide_eq_false (by omega)
  obtain ⟨a1, a2, b1, b2, m1, m2⟩ := area hb
  rw [decide_eq_false c2, decide_eq_false c4, hb, wi (by omega) (by omega)]
  by_cases c5 : a * b ≤ 6
  · rw [decide_eq_true c5, if_neg (by simp), if_pos c5]; rfl
  · rw [decide_eq_false c5, if_neg (by simp), if_neg c5]; rfl
theorem blank14 {a b : Int} (hb : bad a b = false) : f14 a b = some ((blankD a b, ()), ()) := by
  obtain ⟨a1, a2, b1, b2, m1, m2⟩ := area hb
  unfold f14 f14_k
  rw [wi (by omega) (by omega)]
  obtain ⟨n, hn⟩ : ∃ n : Nat, a * b = (n : Int) := ⟨(a * b).toNat, by omega⟩
  rw [hn]
  have e : f14_l3 (n : Int) ((0 : Int), ((0 : Int), (([] : List (List Int)), ()))) ((0 : Int), (a, (b, ([], ())))) = some (a, (b, (List.replicate n (List.replicate 128 (0 : Int)), ()))) := by
    unfold f14_l3
    refine loop_go (fun j => ((j : Int), (a, (b, (List.replicate j (List.replicate 128 (0 : Int)), ()))))) n rfl (fun j hj => ?_) ?_
    · unfold f14_l3_g f14_l3_k
      simp only
      rw [dlt hj]
      simp only [cond_true, List.length_replicate]
      rw [if_pos ⟨by rw [most_eq]; omega, by decide, by decide⟩, wj (by omega), List.replicate_succ' (n := j)]
    · unfold f14_l3_g f14_l3_k
      simp
  simp only [e, some_bind]
  simp [blankD, hn]
theorem whenS_yes {R : Type} {P : Prop} {K : Option R} (h : P) : whenS P K = K := if_pos h
def row0 : List Int := [116, 114, 101, 101, 49] ++ List.replicate 123 0
def mrow (j : Nat) : List Int := ((2 ^ j - 1 : Nat) : Int) :: List.replicate 127 0
def row2 : List Int := 2 :: List.replicate 127 0
def rep (n : Nat) : List (List Int) := List.replicate n (List.replicate 128 (0 : Int))
def rowsN (n : Nat) : List (List Int) := (((rep n).set 0 row0).set 1 (mrow 6)).set 2 row2
def newD (a b : Int) : Disk := (a, (b, (rowsN (a * b).toNat, ())))
def zeroD : Disk := (0, (0, ([], ())))
def newM (a b : Int) : Disk × Int := if bad a b = true then (zeroD, 1) else if a * b ≤ 6 then (zeroD, 13) else (newD a b, 0)
theorem rep_len (n : Nat) : (rep n).length = n := by simp [rep]
theorem rep_getD {n r : Nat} (h : r < n) : (rep n).getD r [] = List.replicate 128 0 := by
  unfold rep
  rw [List.getD_eq_getElem?_getD, List.getElem?_replicate, if_pos h]; rfl
theorem magic : spl (List.replicate 128 (0 : Int)) 0 (List.length (s2b (⟨#[116, 114, 101, 101, 49]⟩ : ByteArray))) (s2b (⟨#[116, 114, 101, 101, 49]⟩ : ByteArray)) = row0 := by decide +kernel
theorem magic_len : List.length (s2b (⟨#[116, 114, 101, 101, 49]⟩ : ByteArray)) = 5 := by decide +kernel
theorem zero_mrow : List.replicate 128 (0 : Int) = mrow 0 := by decide +kernel
theorem ref5 (a b : Int) : f5 a b = some (((newM a b).1, ((newM a b).2, ())), ()) := by
  unfold f5 f5_k newM
  rw [sized13]
  simp only [some_bind]
  cases hb : bad a b with
  | true => rfl
  | false =>
    obtain ⟨a1, a2, b1, b2, m1, m2⟩ := area hb
    simp only [Bool.false_eq_true, if_false]
    by_cases c : a * b ≤ 6
    · simp only [if_pos c]; rfl
    · simp only [if_neg c]
      have hz : ((0 : Int) != 0) = false := rfl
      rw [hz, blank14 hb]
      simp only [cond_false, some_bind]
      obtain ⟨n, hn⟩ : ∃ n : Nat, (a * b).toNat = n ∧ 7 ≤ n ∧ n ≤ 240 := ⟨(a * b).toNat, rfl, by omega, by omega⟩
      obtain ⟨hn, n1, n2⟩ := hn
      have e0 : (blankD a b).2.2.1 = rep n := by unfold blankD rep; rw [hn]
      have e1 : (blankD a b).1 = a := rfl
      have e2 : (blankD a b).2.1 = b := rfl
      have e3 : (blankD a b).2.2.2 = () := rfl
      have g1 : ((rep n).set 0 row0).getD 1 [] = List.replicate 128 0 := by rw [set_getD2 (by rw [rep_len]; omega), if_neg (by decide), rep_getD (by omega)]
      have s1 : (List.replicate 128 (0 : Int)).set 0 63 = mrow 6 := by decide +kernel
      have g2 : (((rep n).set 0 row0).set 1 (mrow 6)).getD 2 [] = List.replicate 128 0 := by
        rw [set_getD2 (by rw [List.length_set, rep_len]; omega), if_neg (by decide), set_getD2 (by rw [rep_len]; omega), if_neg (by decide), rep_getD (by omega)]
      have s2 : (List.replicate 128 (0 : Int)).set 0 2 = row2 := by decide +kernel
      rw [e0, e1, e2, e3, rep_getD (by omega), magic, magic_len, g1, s1, g2, s2, List.length_set, rep_len, List.length_replicate]
      rw [if_pos ⟨by decide, by omega⟩, if_pos ⟨by decide, by decide⟩, if_pos ⟨by decide, by omega⟩, if_pos ⟨by decide, by omega⟩, if_pos ⟨by decide, by decide⟩, if_pos ⟨by decide, by decide⟩]
      unfold newD rowsN
      rw [hn]
def markR (r : List Int) (i : Int) : Option (List Int) :=
  let v0 : Int := (IntKind.i64.wrap (Int.tdiv i (8 : Int)))
  if (0 : Int) ≤ v0 ∧ v0 < ((List.length r : Nat) : Int) then (if (Int.tmod i (8 : Int)) < 0 then none else
    let v1 : Int := (IntKind.u8.wrap ((1 : Int) * 2 ^ (min (Int.toNat (Int.tmod i (8 : Int))) 8)))
    let v2 : Int := (bitop IntKind.u8 .andNot (List.getD r (Int.toNat v0) (0 : Int)) v1)
    some (List.set (List.set r (Int.toNat v0) v2) (Int.toNat v0) (bitop IntKind.u8 .or (List.getD (List.set r (Int.toNat v0) v2) (Int.toNat v0) (0 : Int)) v1))) else none
theorem mark11 (d : Disk) (i : Int) (h : 1 < d.2.2.1.length) : f11 d i true = (markR (d.2.2.1.getD 1 []) i).bind fun r => some ((), (((), ((), (d.2.2.1.set 1 r, ()))), ())) := by
  have g : ∀ r, (d.2.2.1.set 1 r).getD 1 [] = r := fun r => by rw [set_getD2 h, if_pos rfl]
  unfold f11 f11_k markR
  simp only [g, List.length_set, List.set_set, cond_true]
  rw [if_pos ⟨by decide, by omega⟩]
  split
  · rename_i c
    split
    · rfl
    · simp only [if_pos c, some_bind]
      rw [if_pos ⟨by decide, by omega⟩]
  · rfl
theorem mark_step : ∀ j : Fin 6, markR (mrow j.val) ((j.val : Nat) : Int) = some (mrow (j.val + 1)) := by decide +kernel
theorem new4 (a b : Int) : f4 a b = some (((newM a b).1, ((newM a b).2, ())), ()) := by
  unfold newM
  cases hb : bad a b with
  | true =>
    unfold f4 f4_k
    rw [new21]
    simp only [hb, if_true, some_bind]
    rfl
  | false =>
    simp only [Bool.false_eq_true, if_false]
    obtain ⟨a1, a2, b1, b2, m1, m2⟩ := area hb
    have hlen : (blankD a b).2.2.1.length = (a * b).toNat := by simp [blankD]
    by_cases c : a * b ≤ 6
    · simp only [if_pos c]
      unfold f4 f4_k
      rw [new21]
      simp only [hb, Bool.false_eq_true, if_false, some_bind]
      have hz : ((0 : Int) != 0) = false := rfl
      rw [hz, hlen, decide_eq_true (by omega)]
      rfl
    · simp only [if_neg c]
      unfold f4 f4_k
      rw [new21]
      simp only [hb, Bool.false_eq_true, if_false, some_bind]
      have hz : ((0 : Int) != 0) = false := rfl
      obtain ⟨n, hn⟩ : ∃ n : Nat, (a * b).toNat = n ∧ 7 ≤ n ∧ n ≤ 240 := ⟨(a * b).toNat, rfl, by omega, by omega⟩
      obtain ⟨hn, n1, n2⟩ := hn
      have e0 : (blankD a b).2.2.1 = rep n := by unfold blankD rep; rw [hn]
      have e1 : (blankD a b).1 = a := rfl
      have e2 : (blankD a b).2.1 = b := rfl
      have e3 : (blankD a b).2.2.2 = () := rfl
      rw [hz, e0, e1, e2, e3, rep_getD (by omega), magic, magic_len, rep_len, decide_eq_false (by omega), List.length_replicate]
      simp only [cond_false]
      rw [if_pos ⟨by decide, by omega⟩, if_pos ⟨by decide, by decide⟩]
      have hloop : f4_l8 ((0 : Int), ((0 : Int), (([] : List (List Int)), ()))) ((0 : Int), (a, (b, ((rep n).set 0 row0, ())))) = some (a, (b, (((rep n).set 0 row0).set 1 (mrow 6), ()))) := by
        unfold f4_l8
        have h1 : 1 < ((rep n).set 0 row0).length := by rw [List.length_set, rep_len]; omega
        refine loop_go (fun j => ((j : Int), (a, (b, (((rep n).set 0 row0).set 1 (mrow j), ()))))) 6 ?_ (fun j hj => ?_) ?_
        · have : ((rep n).set 0 row0).set 1 (mrow 0) = (rep n).set 0 row0 := by
            have e : mrow 0 = ((rep n).set 0 row0).getD 1 [] := by rw [set_getD2 (by rw [rep_len]; omega), if_neg (by decide), rep_getD (by omega), zero_mrow]
            rw [e, set_getD h1]
          rw [this]; rfl
        · have hm : f11 (a, (b, (((rep n).set 0 row0).set 1 (mrow j), ()))) (j : Int) true = some ((), (((), ((), (((rep n).set 0 row0).set 1 (mrow (j + 1)), ()))), ())) := by
            rw [mark11 _ _ (by simp only [List.length_set, rep_len]; omega)]
            simp only [set_getD2 h1, if_true, List.set_set]
            have := mark_step ⟨j, hj⟩
            simp only at this
            rw [this]; rfl
          unfold f4_l8_g f4_l8_k
          simp only
          rw [decide_eq_true (by omega), hm, wj (by omega)]
          rfl
        · unfold f4_l8_g f4_l8_k
          simp
      rw [hloop]
      simp only [some_bind]
      have g2 : (((rep n).set 0 row0).set 1 (mrow 6)).getD 2 [] = List.replicate 128 0 := by
        rw [set_getD2 (by rw [List.length_set, rep_len]; omega), if_neg (by decide), set_getD2 (by rw [rep_len]; omega), if_neg (by decide), rep_getD (by omega)]
      have hslot : f12 (a, (b, (((rep n).set 0 row0).set 1 (mrow 6), ()))) 0 = some ((2, (0, (16, ()))), (((), ((), (((rep n).set 0 row0).set 1 (mrow 6), ()))), ())) := by
        unfold f12 f12_k
        have w0 : IntKind.i64.wrap (Int.tdiv (0 : Int) (8 : Int)) = 0 := by decide +kernel
        have w1 : IntKind.i64.wrap ((2 : Int) + 0) = 2 := by decide +kernel
        have w2 : IntKind.i64.wrap ((Int.tmod (0 : Int) (8 : Int)) * (16 : Int)) = 0 := by decide +kernel
        have w3 : IntKind.i64.wrap ((0 : Int) + 16) = 16 := by decide +kernel
        simp only [w0, w1, w2, w3]
        rw [if_pos ⟨by decide, by simp only [List.length_set, rep_len]; omega⟩]
        rw [show Int.toNat (2 : Int) = 2 from rfl, g2, List.length_replicate, if_pos ⟨by decide, by decide, by decide⟩]
        rfl
      rw [hslot]
      simp only [some_bind]
      refine (whenS_yes rfl).trans ?_
      rw [show Int.toNat (2 : Int) = 2 from rfl, show Int.toNat (16 : Int) = 16 from rfl, show Int.toNat (0 : Int) = 0 from rfl, g2, if_pos (by simp only [List.length_set, rep_len]; omega), if_pos ⟨by decide, by decide⟩]
      have s2 : (List.replicate 128 (0 : Int)).set (0 + 0) 2 = row2 := by decide +kernel
      rw [s2]
      unfold newD rowsN
      rw [hn]
theorem newM_bytes (a b : Int) : bytesD (newM a b).1 ∧ (newM a b).1.2.2.1.length ≤ 240 := by
  unfold newM
  cases hb : bad a b with
  | true => exact ⟨fun x hx => by simp [zeroD] at hx, by simp [zeroD]⟩
  | false =>
    simp only [Bool.false_eq_true, if_false]
    obtain ⟨a1, a2, b1, b2, m1, m2⟩ := area hb
    by_cases c : a * b ≤ 6
    · simp only [if_pos c]; exact ⟨fun x hx => by simp [zeroD] at hx, by simp [zeroD]⟩
    · simp only [if_neg c]
      have r0 : ∀ y ∈ row0, 0 ≤ y ∧ y < 256 := by decide +kernel
      have r1 : ∀ y ∈ mrow 6, 0 ≤ y ∧ y < 256 := by decide +kernel
      have r2 : ∀ y ∈ row2, 0 ≤ y ∧ y < 256 := by decide +kernel
      refine ⟨fun x hx y hy => ?_, by simp only [newD, rowsN, List.length_set, rep_len]; omega⟩
      have hx : x ∈ rowsN (a * b).toNat := hx
      unfold rowsN at hx
      rcases List.mem_or_eq_of_mem_set hx with hx | hx
      · rcases List.mem_or_eq_of_mem_set hx with hx | hx
        · rcases List.mem_or_eq_of_mem_set hx with hx | hx
          · unfold rep at hx
            rw [(List.mem_replicate.1 hx).2] at hy
            rw [(List.mem_replicate.1 hy).2]; omega
          · exact r0 y (hx ▸ hy)
        · exact r1 y (hx ▸ hy)
      · exact r2 y (hx ▸ hy)
end Go.Proofs.YtgdaiifhedpffaaDoor.V
