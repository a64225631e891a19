/- Chains: tables, entries, names. -/
import Derived.Test.YtmfjebpdkgbggaaVPureChainA
set_option linter.unusedVariables false
set_option linter.unusedSimpArgs false
namespace Go.Proofs.Ytmfjebpdkgbggaa.V
open Go
structure GoodD (d : Disk) : Prop where
  gt : 10 < d.2.2.1.length
  le : d.2.2.1.length ≤ 240
  row : ∀ x ∈ d.2.2.1, x.length = 128
  byt : ∀ x ∈ d.2.2.1, byteL x
theorem GoodD.len {d : Disk} (h : GoodD d) {i : Nat} (hi : i < d.2.2.1.length) : (d.2.2.1.getD i []).length = 128 := h.row _ (getD_mem hi)
theorem GoodD.bytes {d : Disk} (h : GoodD d) {i : Nat} (hi : i < d.2.2.1.length) : byteL (d.2.2.1.getD i []) := h.byt _ (getD_mem hi)
def tb (d : Disk) (i : Nat) : Int := (d.2.2.1.getD (i / 128) []).getD (i % 128) 0
theorem tb_byte {d : Disk} (h : GoodD d) {i : Nat} (hi : i < 256) : 0 ≤ tb d i ∧ tb d i < 256 := byteL_getD (h.bytes (by have := h.gt; omega)) _
theorem table117 {d : Disk} (h : GoodD d) {i : Nat} (hi : i < 256) : f42 d (i : Int) = some ((tb d i, ()), ()) := by
  have hg := h.gt
  have hb := tb_byte h hi
  have e1 : Int.tdiv (i : Int) 128 = ((i / 128 : Nat) : Int) := (Int.ofNat_tdiv i 128).symm
  have e2 : Int.tmod (i : Int) 128 = ((i % 128 : Nat) : Int) := (Int.ofNat_tmod i 128).symm
  unfold f42 f42_k
  rw [e1, e2, wi (by omega) (by omega)]
  simp only
  rw [if_pos ⟨by omega, by omega⟩, Int.toNat_natCast, if_pos ⟨by omega, by rw [h.len (by omega)]; omega⟩, Int.toNat_natCast]
  have e3 : IntKind.i64.wrap ((d.2.2.1.getD (i / 128) []).getD (i % 128) 0) = tb d i := by
    unfold tb at hb ⊢; rw [wi (by omega) (by omega)]
  rw [e3]
def slotL (d : Disk) (i : Nat) : List Int := ((d.2.2.1.getD (2 + i / 4) []).drop (i % 4 * 32)).take 32
theorem slotL_len {d : Disk} (h : GoodD d) {i : Nat} (hi : i < 32) : (slotL d i).length = 32 := by
  unfold slotL
  rw [List.length_take, List.length_drop, h.len (by have := h.gt; omega)]; omega
theorem slotL_byte {d : Disk} (h : GoodD d) {i : Nat} (hi : i < 32) : byteL (slotL d i) := byteL_take (byteL_drop (h.bytes (by have := h.gt; omega)) _) _
theorem slot119 {d : Disk} (h : GoodD d) {i : Nat} (hi : i < 32) : f38 d (i : Int) = some ((slotL d i, ()), ()) := by
  have hg := h.gt
  have e1 : Int.tdiv (i : Int) 4 = ((i / 4 : Nat) : Int) := (Int.ofNat_tdiv i 4).symm
  have e2 : Int.tmod (i : Int) 4 = ((i % 4 : Nat) : Int) := (Int.ofNat_tmod i 4).symm
  unfold f38 f38_k
  rw [e1, e2, wi (by omega) (by omega)]
  simp only
  rw [wi (n := 2 + ((i / 4 : Nat) : Int)) (by omega) (by omega), wi (n := ((i % 4 : Nat) : Int) * 32) (by omega) (by omega), wi (n := ((i % 4 : Nat) : Int) * 32 + 32) (by omega) (by omega)]
  have e3 : (2 + ((i / 4 : Nat) : Int)).toNat = 2 + i / 4 := by omega
  have e4 : (((i % 4 : Nat) : Int) * 32).toNat = i % 4 * 32 := by omega
  have e5 : (((i % 4 : Nat) : Int) * 32 + 32).toNat = i % 4 * 32 + 32 := by omega
  rw [if_pos ⟨by omega, by omega⟩, e3, if_pos ⟨by omega, by omega, by rw [h.len (by omega)]; omega⟩, e4, e5, Nat.add_sub_cancel_left]
  rfl
def nmL (b : List Int) : List Int := cutL (b.take 20)
theorem nmL_len (b : List Int) : (nmL b).length ≤ 20 := by
  have := cutL_le (b.take 20)
  rw [List.length_take] at this
  unfold nmL; omega
theorem nmL_take {b : List Int} : b.take (nmL b).length = nmL b := by
  have h1 := cutL_take (b.take 20)
  rw [List.take_take, Nat.min_eq_left (by have := nmL_len b; unfold nmL at this; omega)] at h1
  exact h1
theorem name125 {b : List Int} (hl : b.length = 32) : f69 b = some ((b2s (nmL b), ()), ()) := by
  have h20 := nmL_len b
  have hl2 : (b.take 20).length = 20 := by rw [List.length_take]; omega
  have s : f69_l2 b 0 = some (((nmL b).length : Nat) : Int) := by
    unfold f69_l2
    refine loop_go (fun j => (j : Int)) (nmL b).length rfl (fun j hj => ?_) ?_
    · unfold f69_l2_g f69_l2_k
      have hne : b.getD j 0 ≠ 0 := by
        have := cutL_ne (l := b.take 20) (j := j) hj
        rwa [getD_take (by omega)] at this
      rw [decide_eq_true (by omega)]
      simp only [cond_true]
      rw [if_pos ⟨by omega, by omega⟩, Int.toNat_natCast, wj (by omega)]
      have : (b.getD j 0 != 0) = true := by simpa using hne
      rw [this]; rfl
    · unfold f69_l2_g f69_l2_k
      by_cases h : (nmL b).length < 20
      · rw [decide_eq_true (by omega)]
        simp only [cond_true]
        rw [if_pos ⟨by omega, by omega⟩, Int.toNat_natCast]
        have h0 : b.getD (nmL b).length 0 = 0 := by
          have := cutL_eq (l := b.take 20) (by rw [hl2]; exact h)
          have h' : (cutL (b.take 20)).length < 20 := h
          rw [getD_take h'] at this
          exact this
        rw [h0]; rfl
      · rw [decide_eq_false (by omega)]; rfl
  unfold f69 f69_k
  rw [s]
  simp only [some_bind]
  have hc : (0 : Int) ≤ 0 ∧ (0 : Int) ≤ (((nmL b).length : Nat) : Int) ∧ (((nmL b).length : Nat) : Int) ≤ ((List.length b : Nat) : Int) := ⟨by omega, by omega, by rw [hl]; omega⟩
  rw [if_pos hc, Int.toNat_natCast, Nat.sub_zero, List.drop_zero, nmL_take]
def okC (c : Int) : Bool := decide ((97 ≤ c ∧ c ≤ 122) ∨ (48 ≤ c ∧ c ≤ 57) ∨ c = 45)
def headOk (l : List Int) : Bool := decide (1 ≤ l.length ∧ l.length ≤ 20 ∧ 97 ≤ l.getD 0 0 ∧ l.getD 0 0 ≤ 122)
def nameOk (l : List Int) : Bool := headOk l && l.all okC
theorem headNo {l : List Int} (h : ¬ (1 ≤ l.length ∧ l.length ≤ 20 ∧ 97 ≤ l.getD 0 0 ∧ l.getD 0 0 ≤ 122)) : headOk l = false := decide_eq_false h
theorem headYes {l : List Int} (h : 1 ≤ l.length ∧ l.length ≤ 20 ∧ 97 ≤ l.getD 0 0 ∧ l.getD 0 0 ≤ 122) : headOk l = true := decide_eq_true h
theorem b2s_size (l : List Int) : (b2s l).size = l.length := by simp [b2s, ByteArray.size]
theorem bt_b2s {l : List Int} (hb : byteL l) {j : Nat} (hj : j < l.length) : bt (b2s l) (j : Int) = l.getD j 0 := by
  have h := byteL_getD hb j
  unfold bt b2s
  simp only [Int.toNat_natCast]
  rw [List.getD_eq_getElem?_getD, List.getElem?_map]
  rw [List.getD_eq_getElem?_getD] at h ⊢
  rw [List.getElem?_eq_getElem hj] at h ⊢
  simp only [Option.map_some, Option.getD_some] at h ⊢
  rw [UInt8.toNat_ofNat', Nat.mod_eq_of_lt (by omega)]; omega
theorem s2b_b2s {l : List Int} (hb : byteL l) : s2b (b2s l) = l := by
  unfold s2b b2s
  rw [List.map_map]
  conv => rhs; rw [← List.map_id l]
  apply List.map_congr_left
  intro x hx
  have h := hb x hx
  simp only [Function.comp, id]
  rw [UInt8.toNat_ofNat', Nat.mod_eq_of_lt (by omega)]; omega
theorem str_empty {l : List Int} (hb : byteL l) : strEq (b2s l) ⟨#[]⟩ = decide (l = []) := strEq_b2s (b := []) hb (fun x hx => by simp at hx)
theorem name39 {l : List Int} (hb : byteL l) (hl : l.length ≤ 140737488355328) : f11 (b2s l) = some ((nameOk l, ()), ()) := by
  unfold f11 f11_k nameOk
  rw [str_empty hb, b2s_size]
  by_cases h0 : l = []
  · subst h0; rfl
  have hpos : 0 < l.length := List.length_pos_iff.2 h0
  rw [decide_eq_false h0]
  simp only [cond_false]
  by_cases h1 : l.length ≤ 20
  · rw [decide_eq_false (by omega)]
    simp only [cond_false]
    rw [if_pos ⟨by omega, by omega⟩]
    have e0 : bt (b2s l) 0 = l.getD 0 0 := bt_b2s hb (j := 0) hpos
    rw [e0]
    by_cases h2 : l.getD 0 0 < 97
    · rw [decide_eq_true h2, headNo (by omega)]; rfl
    rw [decide_eq_false h2]
    simp only [cond_false]
    rw [if_pos ⟨by omega, by omega⟩]
    by_cases h3 : l.getD 0 0 > 122
    · rw [decide_eq_true h3, headNo (by omega)]; rfl
    rw [decide_eq_false h3, headYes ⟨by omega, h1, by omega, by omega⟩]
    simp only [cond_false, f11_l4, Bool.true_and]
    rcases search (Y := Unit ⊕ Unit) (g := f11_l4_g (b2s l) ((List.length l : Nat) : Int)) l.length (fun j => !okC (l.getD j 0)) (fun m => .inl ()) (.inr ()) (fun j hj => by
      unfold f11_l4_g f11_l4_k
      rw [dlt hj]
      simp only [cond_true]
      rw [b2s_size, if_pos ⟨by omega, by omega⟩, bt_b2s hb hj, wj (by omega)]
      generalize l.getD j 0 = c
      have e5 : (c == 45) = decide (c = 45) := by rw [Bool.eq_iff_iff]; simp
      simp only [ge_iff_le, e5]
      by_cases a1 : 97 ≤ c <;> by_cases a2 : c ≤ 122 <;> by_cases a3 : 48 ≤ c <;> by_cases a4 : c ≤ 57 <;> by_cases a5 : c = 45 <;>
        first
        | (have ok : okC c = true := decide_eq_true (by omega)
           rw [ok]; simp [a1, a2, a3, a4, a5]; done)
        | (have ok : okC c = false := decide_eq_false (by omega)
           rw [ok]; simp [a1, a2, a3, a4, a5]; done)) (by
      unfold f11_l4_g f11_l4_k
      rw [dge]; rfl) with ⟨m, m1, m2, m3, e⟩ | ⟨m1, e⟩
    · rw [e]
      have : l.all okC = false := by
        rw [List.all_eq_false]
        exact ⟨_, getD_mem (d := 0) m1, by simpa using m2⟩
      rw [this]; rfl
    · rw [e]
      have : l.all okC = true := by
        rw [List.all_eq_true]
        intro x hx
        obtain ⟨j, hj, rfl⟩ := mem_getD 0 hx
        simpa using m1 j hj
      rw [this]; rfl
  · rw [headNo (by omega), decide_eq_true (by omega)]; rfl
def letters : ByteArray := ⟨#[97, 98, 99, 100, 101, 102, 103, 104, 105, 106, 107, 108, 109, 110, 111, 112, 113, 114, 115, 116, 117, 118, 119, 120, 121, 122, 48, 49, 50, 51, 52, 53, 54, 55, 56, 57, 45]⟩
theorem letter_tab : ∀ c : Fin 256, decide (firstIdx letters (c.val).toUInt8 < 0) = !okC ((c.val : Nat) : Int) := by decide +kernel
theorem letter98 {c : Int} (hc : 0 ≤ c ∧ c < 256) : ∃ n, f33 letters c = some ((n, ()), ()) ∧ decide (n < 0) = !okC c := by
  refine ⟨firstIdx letters c.toNat.toUInt8, rfl, ?_⟩
  have := letter_tab ⟨c.toNat, by omega⟩
  simp only at this
  rw [this]
  congr 2; omega
theorem name40 {l : List Int} (hb : byteL l) (hl : l.length ≤ 140737488355328) : f12 (b2s l) = some ((nameOk l, ()), ()) := by
  unfold f12 f12_k nameOk
  rw [b2s_size, s2b_b2s hb]
  by_cases h0 : l.length < 1
  · rw [headNo (by omega), decide_eq_true (by omega)]; rfl
  rw [decide_eq_false (by omega)]
  simp only [cond_false]
  by_cases h1 : l.length ≤ 20
  · rw [decide_eq_false (by omega)]
    simp only [cond_false]
    rw [if_pos ⟨by omega, by omega⟩]
    have e0 : bt (b2s l) 0 = l.getD 0 0 := bt_b2s hb (j := 0) (by omega)
    rw [e0]
    by_cases h2 : l.getD 0 0 < 97
    · rw [decide_eq_true h2, headNo (by omega)]; rfl
    rw [decide_eq_false h2]
    simp only [cond_false]
    rw [if_pos ⟨by omega, by omega⟩]
    by_cases h3 : l.getD 0 0 > 122
    · rw [decide_eq_true h3, headNo (by omega)]; rfl
    rw [decide_eq_false h3, headYes ⟨by omega, h1, by omega, by omega⟩]
    simp only [cond_false, f12_l4, Bool.true_and]
    rcases search (Y := Unit ⊕ Unit) (g := f12_l4_g l ((List.length l : Nat) : Int)) l.length (fun j => !okC (l.getD j 0)) (fun m => .inl ()) (.inr ()) (fun j hj => by
      unfold f12_l4_g f12_l4_k
      rw [dlt hj]
      simp only [cond_true]
      rw [if_pos ⟨by omega, by omega⟩, Int.toNat_natCast, wj (by omega)]
      obtain ⟨n, h5, h6⟩ := letter98 (byteL_getD hb j)
      have h5 : f33 (⟨#[97, 98, 99, 100, 101, 102, 103, 104, 105, 106, 107, 108, 109, 110, 111, 112, 113, 114, 115, 116, 117, 118, 119, 120, 121, 122, 48, 49, 50, 51, 52, 53, 54, 55, 56, 57, 45]⟩ : ByteArray) (l.getD j 0) = some ((n, ()), ()) := h5
      rw [h5]
      simp only [some_bind]
      rw [h6]
      cases okC (l.getD j 0) <;> rfl) (by
      unfold f12_l4_g f12_l4_k
      rw [dge]; rfl) with ⟨m, m1, m2, m3, e⟩ | ⟨m1, e⟩
    · rw [e]
      have : l.all okC = false := by
        rw [List.all_eq_false]
        exact ⟨_, getD_mem (d := 0) m1, by simpa using m2⟩
      rw [this]; rfl
    · rw [e]
      have : l.all okC = true := by
        rw [List.all_eq_true]
        intro x hx
        obtain ⟨j, hj, rfl⟩ := mem_getD 0 hx
        simpa using m1 j hj
      rw [this]; rfl
  · rw [headNo (by omega), decide_eq_true (by omega)]; rfl
end Go.Proofs.Ytmfjebpdkgbggaa.V
