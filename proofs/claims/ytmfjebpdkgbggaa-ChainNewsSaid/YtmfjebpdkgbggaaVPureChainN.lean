/- New disks of chains: the tables. -/
import Derived.Test.YtmfjebpdkgbggaaVPureChainChecks
set_option linter.unusedVariables false
set_option linter.unusedSimpArgs false
namespace Go.Proofs.Ytmfjebpdkgbggaa.V
open Go

def tval (n i : Nat) : Int := if i ≥ 10 ∧ i < n then 255 else 253
/-- A row of the table. -/
def tabR (n r : Nat) : List Int := (List.range 128).map fun j => tval n (r * 128 + j)
theorem tabR_len (n r : Nat) : (tabR n r).length = 128 := by simp [tabR]
theorem tabR_getD {n r j : Nat} (hj : j < 128) : (tabR n r).getD j 0 = tval n (r * 128 + j) := by
  unfold tabR
  rw [List.getD_eq_getElem?_getD, List.getElem?_map, List.getElem?_range hj]; rfl
theorem set_getD2 {α : Type} {l : List α} {i r : Nat} {x d : α} (hi : i < l.length) : (l.set i x).getD r d = if i = r then x else l.getD r d := by
  rw [List.getD_eq_getElem?_getD, List.getElem?_set]
  by_cases e : i = r
  · rw [if_pos e, if_pos e, if_pos hi]; rfl
  · rw [if_neg e, if_neg e, ← List.getD_eq_getElem?_getD]
theorem tabN_at {n : Nat} {rows : List (List Int)} (h : ∀ x ∈ rows, x.length = 128) (hl : 2 ≤ rows.length) : ∀ k, k ≤ 256 → ∀ r j, r < rows.length → j < 128 → ((tabN n k rows).getD r []).getD j 0 = if r * 128 + j < k then tval n (r * 128 + j) else (rows.getD r []).getD j 0
  | 0, _, r, j, hr, hj => by rw [if_neg (by omega)]; rfl
  | k + 1, hk, r, j, hr, hj => by
    obtain ⟨t1, t2⟩ := tabN_ok (n := n) h hl k (by omega)
    have ih := tabN_at (n := n) h hl k (by omega) r j hr hj
    unfold tabN setT
    rw [set_getD2 (by omega)]
    by_cases e : k / 128 = r
    · rw [if_pos e, set_getD2 (by rw [t2 _ (getD_mem (by omega))]; omega)]
      by_cases e2 : k % 128 = j
      · have : k = r * 128 + j := by omega
        have hk2 : r * 128 + j < k + 1 := by omega
        rw [if_pos e2, if_pos hk2]
        show tval n k = _
        rw [this]
      · rw [if_neg e2, e, ih]
        by_cases h1 : r * 128 + j < k
        · rw [if_pos h1, if_pos (by omega)]
        · rw [if_neg h1, if_neg (by omega)]
    · rw [if_neg e, ih]
      by_cases h1 : r * 128 + j < k
      · rw [if_pos h1, if_pos (by omega)]
      · rw [if_neg h1, if_neg (by omega)]
/-- The table, set row for row. -/
theorem tabN_eq {n : Nat} {rows : List (List Int)} (h : ∀ x ∈ rows, x.length = 128) (hl : 2 ≤ rows.length) : tabN n 256 rows = (rows.set 0 (tabR n 0)).set 1 (tabR n 1) := by
  obtain ⟨t1, t2⟩ := tabN_ok (n := n) h hl 256 (Nat.le_refl _)
  refine getD_ext (d := []) (by rw [t1, List.length_set, List.length_set]) (fun r hr => ?_)
  rw [t1] at hr
  have hrow := t2 _ (getD_mem (d := []) (j := r) (by omega))
  rw [set_getD2 (by rw [List.length_set]; omega)]
  refine getD_ext (d := 0) ?_ (fun j hj => ?_)
  · rw [hrow]
    by_cases e1 : 1 = r
    · rw [if_pos e1, tabR_len]
    · rw [if_neg e1, set_getD2 (by omega)]
      by_cases e0 : 0 = r
      · rw [if_pos e0, tabR_len]
      · rw [if_neg e0, h _ (getD_mem hr)]
  · rw [hrow] at hj
    rw [tabN_at h hl 256 (Nat.le_refl _) r j hr hj]
    by_cases e1 : 1 = r
    · rw [if_pos e1, tabR_getD hj, if_pos (by omega), e1]
    · rw [if_neg e1, set_getD2 (by omega)]
      by_cases e0 : 0 = r
      · rw [if_pos e0, tabR_getD hj, if_pos (by omega), e0]
      · rw [if_neg e0, if_neg (by omega)]
theorem b2s_s2b (s : ByteArray) : b2s (s2b s) = s := by
  unfold b2s s2b
  rw [List.map_map]
  have : s.data.toList.map ((fun n : Int => UInt8.ofNat n.toNat) ∘ fun b : UInt8 => ((b.toNat : Nat) : Int)) = s.data.toList := by
    conv => rhs; rw [← List.map_id s.data.toList]
    apply List.map_congr_left
    intro b hb
    simp only [Function.comp, Int.toNat_natCast, id]
    exact UInt8.ofNat_toNat
  rw [this]
theorem s2b_byte (s : ByteArray) : byteL (s2b s) := by
  intro x hx
  obtain ⟨b, hb, rfl⟩ := List.mem_map.1 hx
  have := b.toNat_lt
  constructor <;> omega
end Go.Proofs.Ytmfjebpdkgbggaa.V
