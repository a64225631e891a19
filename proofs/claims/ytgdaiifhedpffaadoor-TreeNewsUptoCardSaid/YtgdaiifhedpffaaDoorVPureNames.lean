/- Names: the program's test and the reference's. -/
import Derived.Test.YtgdaiifhedpffaaDoorVFnTree
import Derived.Test.YtgdaiifhedpffaaDoorVKit3
import Derived.Test.YtgdaiifhedpffaaDoorVExt
import Derived.KernelRfl
set_option linter.unusedVariables false
set_option linter.unusedSimpArgs false
namespace Go.Proofs.YtgdaiifhedpffaaDoor.V
open Go
def byteL (l : List Int) : Prop := ∀ x ∈ l, 0 ≤ x ∧ x < 256
theorem byteL_drop {l : List Int} (h : byteL l) (n : Nat) : byteL (l.drop n) := fun x hx => h x (List.mem_of_mem_drop hx)
theorem byteL_getD {l : List Int} (h : byteL l) (j : Nat) : 0 ≤ l.getD j 0 ∧ l.getD j 0 < 256 := by
  by_cases hj : j < l.length
  · exact h _ (getD_mem hj)
  · rw [List.getD_eq_getElem?_getD, List.getElem?_eq_none (by omega)]; decide
def okC (c : Int) : Bool := decide ((97 ≤ c ∧ c ≤ 122) ∨ (48 ≤ c ∧ c ≤ 57) ∨ c = 45)
def headOk (l : List Int) : Bool := decide (1 ≤ l.length ∧ l.length ≤ 20 ∧ 97 ≤ l.getD 0 0 ∧ l.getD 0 0 ≤ 122)
def nameOk (l : List Int) : Bool := headOk l && l.all okC
theorem headNo {l : List Int} (h : ¬ (1 ≤ l.length ∧ l.length ≤ 20 ∧ 97 ≤ l.getD 0 0 ∧ l.getD 0 0 ≤ 122)) : headOk l = false := decide_eq_false h
theorem headYes {l : List Int} (h : 1 ≤ l.length ∧ l.length ≤ 20 ∧ 97 ≤ l.getD 0 0 ∧ l.getD 0 0 ≤ 122) : headOk l = true := decide_eq_true h
theorem b2s_size (l : List Int) : (b2s l).size = l.length := by simp [b2s, ByteArray.size]
theorem bt_b2s {l : List Int} (hb : byteL l) {j : Nat} (hj : j < l.length) : bt (b2s l) (j : Int) = l.getD j 0 := by
  have h := byteL_getD hb j
  unfold bt b2s
  simp only [Int.toNat_natCast]
  rw [List.getD_eq_getElem?_getD, List.getElem?_map]
  rw [List.getD_eq_getElem?_getD] at h ⊢
  rw [List.getElem?_eq_getElem hj] at h ⊢
  simp only [Option.map_some, Option.getD_some] at h ⊢
  rw [UInt8.toNat_ofNat', Nat.mod_eq_of_lt (by omega)]; omega
theorem s2b_b2s {l : List Int} (hb : byteL l) : s2b (b2s l) = l := by
  unfold s2b b2s
  rw [List.map_map]
  conv => rhs; rw [← List.map_id l]
  apply List.map_congr_left
  intro x hx
  have h := hb x hx
  simp only [Function.comp, id]
  rw [UInt8.toNat_ofNat', Nat.mod_eq_of_lt (by omega)]; omega
theorem str_empty {l : List Int} (hb : byteL l) : strEq (b2s l) ⟨#[]⟩ = decide (l = []) := strEq_b2s (b := []) hb (fun x hx => by simp at hx)
theorem name39 {l : List Int} (hb : byteL l) (hl : l.length ≤ 140737488355328) : f19 (b2s l) = some ((nameOk l, ()), ()) := by
  unfold f19 f19_k nameOk
  rw [str_empty hb, b2s_size]
  by_cases h0 : l = []
  · subst h0; rfl
  have hpos : 0 < l.length := List.length_pos_iff.2 h0
  rw [decide_eq_false h0]
  simp only [cond_false]
  by_cases h1 : l.length ≤ 20
  · rw [decide_eq_false (by omega)]
    simp only [cond_false]
    rw [if_pos ⟨by omega, by omega⟩]
    have e0 : bt (b2s l) 0 = l.getD 0 0 := bt_b2s hb (j := 0) hpos
    rw [e0]
    by_cases h2 : l.getD 0 0 < 97
    · rw [decide_eq_true h2, headNo (by omega)]; rfl
    rw [decide_eq_false h2]
    simp only [cond_false]
    rw [if_pos ⟨by omega, by omega⟩]
    by_cases h3 : l.getD 0 0 > 122
    · rw [decide_eq_true h3, headNo (by omega)]; rfl
    rw [decide_eq_false h3, headYes ⟨by omega, h1, by omega, by omega⟩]
    simp only [cond_false, f19_l4, Bool.true_and]
    rcases search (Y := Unit ⊕ Unit) (g := f19_l4_g (b2s l) ((List.length l : Nat) : Int)) l.length (fun j => !okC (l.getD j 0)) (fun m => .inl ()) (.inr ()) (fun j hj => by
      unfold f19_l4_g f19_l4_k
      rw [dlt hj]
      simp only [cond_true]
      rw [b2s_size, if_pos ⟨by omega, by omega⟩, bt_b2s hb hj, wj (by omega)]
      generalize l.getD j 0 = c
      have e5 : (c == 45) = decide (c = 45) := by rw [Bool.eq_iff_iff]; simp
      simp only [ge_iff_le, e5]
      by_cases a1 : 97 ≤ c <;> by_cases a2 : c ≤ 122 <;> by_cases a3 : 48 ≤ c <;> by_cases a4 : c ≤ 57 <;> by_cases a5 : c = 45 <;>
        first
        | (have ok : okC c = true := decide_eq_true (by omega)
           rw [ok]; simp [a1, a2, a3, a4, a5]; done)
        | (have ok : okC c = false := decide_eq_false (by omega)
           rw [ok]; simp [a1, a2, a3, a4, a5]; done)) (by
      unfold f19_l4_g f19_l4_k
      rw [dge]; rfl) with ⟨m, m1, m2, m3, e⟩ | ⟨m1, e⟩
    · rw [e]
      have : l.all okC = false := by
        rw [List.all_eq_false]
        exact ⟨_, getD_mem (d := 0) m1, by simpa using m2⟩
      rw [this]; rfl
    · rw [e]
      have : l.all okC = true := by
        rw [List.all_eq_true]
        intro x hx
        obtain ⟨j, hj, rfl⟩ := mem_getD 0 hx
        simpa using m1 j hj
      rw [this]; rfl
  · rw [headNo (by omega), decide_eq_true (by omega)]; rfl
def letters : ByteArray := ⟨#[97, 98, 99, 100, 101, 102, 103, 104, 105, 106, 107, 108, 109, 110, 111, 112, 113, 114, 115, 116, 117, 118, 119, 120, 121, 122, 48, 49, 50, 51, 52, 53, 54, 55, 56, 57, 45]⟩
theorem letter_tab : ∀ c : Fin 256, decide (firstIdx letters (c.val).toUInt8 < 0) = !okC ((c.val : Nat) : Int) := by decide +kernel
theorem letter98 {c : Int} (hc : 0 ≤ c ∧ c < 256) : ∃ n, f27 letters c = some ((n, ()), ()) ∧ decide (n < 0) = !okC c := by
  refine ⟨firstIdx letters c.toNat.toUInt8, rfl, ?_⟩
  have := letter_tab ⟨c.toNat, by omega⟩
  simp only at this
  rw [this]
  congr 2; omega
theorem name40 {l : List Int} (hb : byteL l) (hl : l.length ≤ 140737488355328) : f22 (b2s l) = some ((nameOk l, ()), ()) := by
  unfold f22 f22_k nameOk
  rw [b2s_size, s2b_b2s hb]
  by_cases h0 : l.length < 1
  · rw [headNo (by omega), decide_eq_true (by omega)]; rfl
  rw [decide_eq_false (by omega)]
  simp only [cond_false]
  by_cases h1 : l.length ≤ 20
  · rw [decide_eq_false (by omega)]
    simp only [cond_false]
    rw [if_pos ⟨by omega, by omega⟩]
    have e0 : bt (b2s l) 0 = l.getD 0 0 := bt_b2s hb (j := 0) (by omega)
    rw [e0]
    by_cases h2 : l.getD 0 0 < 97
    · rw [decide_eq_true h2, headNo (by omega)]; rfl
    rw [decide_eq_false h2]
    simp only [cond_false]
    rw [if_pos ⟨by omega, by omega⟩]
    by_cases h3 : l.getD 0 0 > 122
    · rw [decide_eq_true h3, headNo (by omega)]; rfl
    rw [decide_eq_false h3, headYes ⟨by omega, h1, by omega, by omega⟩]
    simp only [cond_false, f22_l4, Bool.true_and]
    rcases search (Y := Unit ⊕ Unit) (g := f22_l4_g l ((List.length l : Nat) : Int)) l.length (fun j => !okC (l.getD j 0)) (fun m => .inl ()) (.inr ()) (fun j hj => by
      unfold f22_l4_g f22_l4_k
      rw [dlt hj]
      simp only [cond_true]
      rw [if_pos ⟨by omega, by omega⟩, Int.toNat_natCast, wj (by omega)]
      obtain ⟨n, h5, h6⟩ := letter98 (byteL_getD hb j)
      have h5 : f27 (⟨#[97, 98, 99, 100, 101, 102, 103, 104, 105, 106, 107, 108, 109, 110, 111, 112, 113, 114, 115, 116, 117, 118, 119, 120, 121, 122, 48, 49, 50, 51, 52, 53, 54, 55, 56, 57, 45]⟩ : ByteArray) (l.getD j 0) = some ((n, ()), ()) := h5
      rw [h5]
      simp only [some_bind]
      rw [h6]
      cases okC (l.getD j 0) <;> rfl) (by
      unfold f22_l4_g f22_l4_k
      rw [dge]; rfl) with ⟨m, m1, m2, m3, e⟩ | ⟨m1, e⟩
    · rw [e]
      have : l.all okC = false := by
        rw [List.all_eq_false]
        exact ⟨_, getD_mem (d := 0) m1, by simpa using m2⟩
      rw [this]; rfl
    · rw [e]
      have : l.all okC = true := by
        rw [List.all_eq_true]
        intro x hx
        obtain ⟨j, hj, rfl⟩ := mem_getD 0 hx
        simpa using m1 j hj
      rw [this]; rfl
  · rw [headNo (by omega), decide_eq_true (by omega)]; rfl
theorem b2s_s2b (s : ByteArray) : b2s (s2b s) = s := by
  unfold b2s s2b
  rw [List.map_map]
  have : s.data.toList.map ((fun n : Int => UInt8.ofNat n.toNat) ∘ fun b : UInt8 => ((b.toNat : Nat) : Int)) = s.data.toList := by
    conv => rhs; rw [← List.map_id s.data.toList]
    apply List.map_congr_left
    intro b hb
    simp only [Function.comp, Int.toNat_natCast, id]
    exact UInt8.ofNat_toNat
  rw [this]
theorem s2b_byte (s : ByteArray) : byteL (s2b s) := by
  intro x hx
  obtain ⟨b, hb, rfl⟩ := List.mem_map.1 hx
  have := b.toNat_lt
  constructor <;> omega
end Go.Proofs.YtgdaiifhedpffaaDoor.V
