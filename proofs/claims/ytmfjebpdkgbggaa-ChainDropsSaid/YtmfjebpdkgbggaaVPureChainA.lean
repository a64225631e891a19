/- Chains: bytes, names, tables, entries. -/
import Derived.Test.YtmfjebpdkgbggaaVPureDiskC
import Derived.Test.YtmfjebpdkgbggaaVPureRowsC
import Derived.Test.YtmfjebpdkgbggaaVKit2
import Derived.KernelRfl
set_option linter.unusedVariables false
set_option linter.unusedSimpArgs false
namespace Go.Proofs.Ytmfjebpdkgbggaa.V
open Go
def byteL (l : List Int) : Prop := ∀ x ∈ l, 0 ≤ x ∧ x < 256
theorem byteL_take {l : List Int} (h : byteL l) (n : Nat) : byteL (l.take n) := fun x hx => h x (List.mem_of_mem_take hx)
theorem byteL_drop {l : List Int} (h : byteL l) (n : Nat) : byteL (l.drop n) := fun x hx => h x (List.mem_of_mem_drop hx)
theorem byteL_getD {l : List Int} (h : byteL l) (j : Nat) : 0 ≤ l.getD j 0 ∧ l.getD j 0 < 256 := by
  by_cases hj : j < l.length
  · exact h _ (getD_mem hj)
  · rw [List.getD_eq_getElem?_getD, List.getElem?_eq_none (by omega)]; decide
theorem getD_take {l : List Int} {j n : Nat} (h : j < n) : (l.take n).getD j 0 = l.getD j 0 := by
  rw [List.getD_eq_getElem?_getD, List.getD_eq_getElem?_getD, List.getElem?_take_of_lt h]
theorem getD_drop {l : List Int} {j n : Nat} : (l.drop n).getD j 0 = l.getD (n + j) 0 := by
  rw [List.getD_eq_getElem?_getD, List.getD_eq_getElem?_getD, List.getElem?_drop]
theorem fold_loop {β : Type} (f : β → UInt8 → β) (bs : ByteArray) (stop : Nat) (h : stop ≤ bs.size) : ∀ (i j : Nat) (b : β), i + j = stop →
    (ByteArray.foldlM.loop (m := _root_.Id) (fun x y => pure (f x y)) bs stop h i j b).run = ((bs.data.toList.drop j).take i).foldl f b := by
  intro i
  induction i with
  | zero =>
    intro j b e
    unfold ByteArray.foldlM.loop
    rw [dif_neg (by omega)]; rfl
  | succ i ih =>
    intro j b e
    unfold ByteArray.foldlM.loop
    rw [dif_pos (by omega)]
    have hj : j < bs.data.toList.length := by
      have : bs.size = bs.data.toList.length := (Array.length_toList (xs := bs.data)).symm
      omega
    rw [List.drop_eq_getElem_cons hj, List.take_succ_cons, List.foldl_cons]
    exact ih (j + 1) _ (by omega)
theorem cntB_list (l : List UInt8) (c : UInt8) : cntB ⟨l.toArray⟩ c = ((l.countP (· == c) : Nat) : Int) := by
  have h0 : cntB ⟨l.toArray⟩ c = l.foldl (fun n x => if x == c then n + 1 else n) ((0 : Nat) : Int) := by
    unfold cntB ByteArray.foldl ByteArray.foldlM
    rw [dif_pos (Nat.le_refl _)]
    have := fold_loop (fun (n : Int) x => if x == c then n + 1 else n) ⟨l.toArray⟩ (ByteArray.mk l.toArray).size (Nat.le_refl _) ((ByteArray.mk l.toArray).size - 0) 0 ((0 : Nat) : Int) (by omega)
    refine this.trans ?_
    simp [ByteArray.size]
  rw [h0]
  have : ∀ (l : List UInt8) (a : Nat), l.foldl (fun n x => if x == c then n + 1 else n) ((a : Nat) : Int) = ((a + l.countP (· == c) : Nat) : Int) := by
    intro l
    induction l with
    | nil => intro a; simp
    | cons x l ih =>
      intro a
      rw [List.foldl_cons, List.countP_cons]
      by_cases h : (x == c) = true
      · rw [if_pos h, if_pos h]
        have := ih (a + 1)
        rw [show ((a : Nat) : Int) + 1 = ((a + 1 : Nat) : Int) by omega, this]
        congr 1; omega
      · rw [if_neg h, if_neg h, ih a]; congr 1
  have := this l 0
  rw [this]; simp
theorem u8_eq {x c : Int} (hx : 0 ≤ x ∧ x < 256) (hc : 0 ≤ c ∧ c < 256) : (UInt8.ofNat x.toNat == c.toNat.toUInt8) = (x == c) := by
  have hu : ∀ n : Nat, n < 256 → (UInt8.ofNat n).toNat = n := fun n hn => by
    rw [UInt8.toNat_ofNat']; exact Nat.mod_eq_of_lt hn
  have e1 := hu x.toNat (by omega)
  have e2 : (c.toNat.toUInt8).toNat = c.toNat := hu c.toNat (by omega)
  rw [Bool.eq_iff_iff, beq_iff_eq, beq_iff_eq]
  constructor
  · intro h
    have := congrArg UInt8.toNat h
    rw [e1, e2] at this; omega
  · intro h; subst h; rfl
theorem cnt_b2s {l : List Int} (hb : byteL l) {c : Int} (hc : 0 ≤ c ∧ c < 256) : cntB (b2s l) c.toNat.toUInt8 = ((l.countP (· == c) : Nat) : Int) := by
  unfold b2s
  rw [cntB_list, List.countP_map]
  congr 1
  apply List.countP_congr
  intro x hx
  simp only [Function.comp]
  rw [u8_eq (hb x hx) hc]
theorem count121 {l : List Int} (hb : byteL l) {c : Int} (hc : 0 ≤ c ∧ c < 256) : f74 l [c] = some ((((l.countP (· == c) : Nat) : Int), ()), ()) := by
  unfold f74 f74_k
  simp only [List.length_singleton, eCount, cnt_b2s hb hc, List.getD_cons_zero, some_bind]
  rfl
theorem first_b2s {l : List Int} (hb : byteL l) {c : Int} (hc : 0 ≤ c ∧ c < 256) :
    firstIdx (b2s l) c.toNat.toUInt8 = if (l.takeWhile (fun x => x != c)).length < l.length then (((l.takeWhile (fun x => x != c)).length : Nat) : Int) else -1 := by
  have hsz : (b2s l).size = l.length := by simp [b2s, ByteArray.size]
  have hget : ∀ i, i < l.length → ((b2s l)[i]! == c.toNat.toUInt8) = (l.getD i 0 == c) := by
    intro i hi
    rw [getElem!_pos (b2s l) i (by rw [hsz]; exact hi)]
    have : (b2s l)[i]'(by rw [hsz]; exact hi) = UInt8.ofNat (l.getD i 0).toNat := by
      simp [b2s, ByteArray.get, ByteArray.getElem_eq_getElem_data, List.getD_eq_getElem?_getD, List.getElem?_eq_getElem hi]
    rw [this]
    exact u8_eq (byteL_getD hb i) hc
  have tw : ∀ (l : List Int), (∀ j, j < (l.takeWhile (fun x => x != c)).length → (l.getD j 0 == c) = false) ∧ ((l.takeWhile (fun x => x != c)).length < l.length → (l.getD (l.takeWhile (fun x => x != c)).length 0 == c) = true) := by
    intro l
    induction l with
    | nil => exact ⟨fun j hj => by simp at hj, fun h => by simp at h⟩
    | cons x l ih =>
      by_cases h : x = c
      · subst h
        simp [List.takeWhile_cons]
      · have hx : (x != c) = true := by simpa using h
        simp only [List.takeWhile_cons, hx, if_true, List.length_cons]
        refine ⟨fun j hj => ?_, fun hj => ?_⟩
        · cases j with
          | zero => simpa using h
          | succ j => exact ih.1 j (by omega)
        · exact ih.2 (by omega)
  obtain ⟨t1, t2⟩ := tw l
  unfold firstIdx
  rw [hsz]
  by_cases hlt : (l.takeWhile (fun x => x != c)).length < l.length
  · have : (List.range l.length).find? (fun i => (b2s l)[i]! == c.toNat.toUInt8) = some (l.takeWhile (fun x => x != c)).length := by
      rw [List.find?_range_eq_some]
      refine ⟨by rw [hget _ hlt]; exact t2 hlt, by simpa using hlt, fun j hj => ?_⟩
      rw [hget j (by omega), t1 j hj]; rfl
    rw [this, if_pos hlt]
  · have : (List.range l.length).find? (fun i => (b2s l)[i]! == c.toNat.toUInt8) = none := by
      rw [List.find?_range_eq_none]
      intro j hj
      rw [hget j hj, t1 j (by omega)]; rfl
    rw [this, if_neg hlt]
def cutL (l : List Int) : List Int := l.takeWhile (fun x => x != 0)
theorem cutL_take (l : List Int) : l.take (cutL l).length = cutL l := (List.prefix_iff_eq_take.1 (List.takeWhile_prefix _)).symm
theorem cutL_le (l : List Int) : (cutL l).length ≤ l.length := (List.takeWhile_prefix (p := fun x => x != 0) (l := l)).length_le
theorem cutL_ne {l : List Int} {j : Nat} (h : j < (cutL l).length) : l.getD j 0 ≠ 0 := by
  have h1 : (cutL l).getD j 0 ∈ cutL l := getD_mem h
  have h2 : ∀ x ∈ cutL l, x ≠ 0 := fun x hx => by
    have h4 : (l.takeWhile (fun x => x != 0)).all (fun x => x != 0) = true := List.all_takeWhile
    simpa using List.all_eq_true.1 h4 x hx
  have h3 : (cutL l).getD j 0 = l.getD j 0 := by
    rw [← cutL_take, getD_take h]
  rw [← h3]; exact h2 _ h1
theorem cutL_eq {l : List Int} (h : (cutL l).length < l.length) : l.getD (cutL l).length 0 = 0 := by
  induction l with
  | nil => simp at h
  | cons x l ih =>
    by_cases hx : x = 0
    · subst hx; simp [cutL, List.takeWhile_cons]
    · have : (x != 0) = true := by simpa using hx
      simp only [cutL, List.takeWhile_cons, this, if_true, List.length_cons] at h ⊢
      exact ih (by simpa [cutL] using h)
theorem cut142 {l : List Int} (hb : byteL l) (hl : l.length ≤ 140737488355328) : ∃ z, f75 l [0] = some ((cutL l, z), ()) := by
  have h151 : f104 l [0] = some ((if (cutL l).length < l.length then (((cutL l).length : Nat) : Int) else -1, ()), ()) := by
    unfold f104 f104_k
    simp only [List.length_singleton, f134, f134_k, eByte, first_b2s hb (c := 0) (by decide), List.getD_cons_zero, some_bind]
    rfl
  unfold f75 f75_k
  rw [h151]
  simp only [some_bind]
  by_cases h : (cutL l).length < l.length
  · rw [if_pos h, decide_eq_true (by omega)]
    simp only [cond_true, List.length_singleton]
    rw [if_pos ⟨by omega, by omega, by omega⟩, wi (by omega) (by omega), if_pos ⟨by omega, by omega, by omega⟩, Int.toNat_natCast, Nat.sub_zero, List.drop_zero, cutL_take]
    exact ⟨_, rfl⟩
  · rw [if_neg h]
    have : cutL l = l := by
      have := cutL_take l
      rw [List.take_of_length_le (by omega)] at this
      exact this.symm
    rw [this]
    exact ⟨_, rfl⟩
end Go.Proofs.Ytmfjebpdkgbggaa.V
