/- Rows of a disk that are changed: bytes of the table, an entry; the disk that is rebuilt. -/
import Derived.Test.YtmfjebpdkgbggaaVPureSecs
import Derived.Test.YtmfjebpdkgbggaaVPureSame
set_option linter.unusedVariables false
set_option linter.unusedSimpArgs false
namespace Go.Proofs.Ytmfjebpdkgbggaa.V
open Go
def r128 (rows : List (List Int)) : Prop := ∀ x ∈ rows, x.length = 128
theorem r128.at {rows : List (List Int)} (h : r128 rows) {i : Nat} (hi : i < rows.length) : (rows.getD i []).length = 128 := h _ (getD_mem hi)
theorem setGetD {α : Type} {l : List α} {i r : Nat} {x d : α} (hi : i < l.length) : (l.set i x).getD r d = if i = r then x else l.getD r d := by
  rw [List.getD_eq_getElem?_getD, List.getElem?_set, List.getD_eq_getElem?_getD]
  by_cases e : i = r
  · rw [if_pos e, if_pos e, if_pos hi]; rfl
  · rw [if_neg e, if_neg e]
def setB (rows : List (List Int)) (i : Nat) (c : Int) : List (List Int) := rows.set (i / 128) ((rows.getD (i / 128) []).set (i % 128) c)
theorem setB_len (rows : List (List Int)) (i : Nat) (c : Int) : (setB rows i c).length = rows.length := List.length_set ..
theorem setB_row {rows : List (List Int)} (h : r128 rows) (i : Nat) (c : Int) : r128 (setB rows i c) := by
  intro x hx
  unfold setB at hx
  by_cases hi : i / 128 < rows.length
  · rcases List.mem_or_eq_of_mem_set hx with hx | hx
    · exact h x hx
    · rw [hx, List.length_set]; exact h.at hi
  · rw [List.set_eq_of_length_le (Nat.not_lt.1 hi)] at hx
    exact h x hx
theorem setB_ge {rows : List (List Int)} {i r : Nat} (c : Int) (hi : i < 256) (hr : 2 ≤ r) : (setB rows i c).getD r [] = rows.getD r [] := by
  unfold setB
  by_cases h : i / 128 < rows.length
  · rw [setGetD h, if_neg (by omega)]
  · rw [List.set_eq_of_length_le (Nat.not_lt.1 h)]
def rtab (rows : List (List Int)) : List Int := rows.getD 0 [] ++ rows.getD 1 []
theorem rtab_tabL (d : Disk) : rtab d.2.2.1 = tabL d := by unfold rtab tabL; simp
theorem rtab_len {rows : List (List Int)} (h : r128 rows) (h2 : 2 ≤ rows.length) : (rtab rows).length = 256 := by
  unfold rtab
  rw [List.length_append, h.at (by omega), h.at (by omega)]
theorem rtab_set {rows : List (List Int)} (h : r128 rows) (h2 : 2 ≤ rows.length) {i : Nat} (hi : i < 256) (c : Int) : rtab (setB rows i c) = (rtab rows).set i c := by
  have l0 := h.at (i := 0) (by omega)
  unfold rtab setB
  by_cases h0 : i < 128
  · have e1 : i / 128 = 0 := by omega
    have e2 : i % 128 = i := by omega
    rw [e1, e2, setGetD (by omega), setGetD (by omega), if_pos rfl, if_neg (by decide), List.set_append_left _ _ (by omega)]
  · have e1 : i / 128 = 1 := by omega
    have e2 : i % 128 = i - 128 := by omega
    rw [e1, e2, setGetD (by omega), setGetD (by omega), if_neg (by decide), if_pos rfl, List.set_append_right _ _ (by omega), l0]
theorem rtab_row {rows : List (List Int)} (h : r128 rows) (h2 : 2 ≤ rows.length) {r : Nat} (hr : r < 2) : ((rtab rows).drop (128 * r)).take 128 = rows.getD r [] := by
  have l0 := h.at (i := 0) (by omega)
  have l1 := h.at (i := 1) (by omega)
  unfold rtab
  rcases (show r = 0 ∨ r = 1 by omega) with rfl | rfl
  · rw [Nat.mul_zero, List.drop_zero, List.take_left' l0]
  · rw [Nat.mul_one, List.drop_left' l0, List.take_of_length_le (by omega)]
theorem set39 {D : Disk} {i : Nat} {n : Int} (h : r128 D.2.2.1) (hi : i < 256) (h2 : 2 ≤ D.2.2.1.length) : f39 D (i : Int) n = some ((), (((), ((), (setB D.2.2.1 i (IntKind.u8.wrap n), ()))), ())) := by
  have e1 : Int.tdiv (i : Int) 128 = ((i / 128 : Nat) : Int) := (Int.ofNat_tdiv i 128).symm
  have e2 : Int.tmod (i : Int) 128 = ((i % 128 : Nat) : Int) := (Int.ofNat_tmod i 128).symm
  unfold f39 f39_k
  rw [e1, e2, wi (by omega) (by omega)]
  simp only
  rw [if_pos ⟨by omega, by omega⟩, Int.toNat_natCast, if_pos ⟨by omega, by rw [h.at (by omega)]; omega⟩, Int.toNat_natCast]
  rfl
theorem part38 {D : Disk} {i : Nat} (hi : i < 32) (hl : 2 + i / 4 < D.2.2.1.length) (hr : (D.2.2.1.getD (2 + i / 4) []).length = 128) :
    f38x1 D (i : Int) = some ((((2 + i / 4 : Nat) : Int), (((i % 4 * 32 : Nat) : Int), (((32 : Nat) : Int), ()))), (((), ((), (D.2.2.1, ()))), ())) := by
  have e1 : Int.tdiv (i : Int) 4 = ((i / 4 : Nat) : Int) := (Int.ofNat_tdiv i 4).symm
  have e2 : Int.tmod (i : Int) 4 = ((i % 4 : Nat) : Int) := (Int.ofNat_tmod i 4).symm
  unfold f38x1 f38x1_k
  rw [e1, e2, wi (by omega) (by omega)]
  simp only
  rw [wi (n := 2 + ((i / 4 : Nat) : Int)) (by omega) (by omega), wi (n := ((i % 4 : Nat) : Int) * 32) (by omega) (by omega), wi (n := ((i % 4 : Nat) : Int) * 32 + 32) (by omega) (by omega)]
  have e3 : (2 + ((i / 4 : Nat) : Int)).toNat = 2 + i / 4 := by omega
  have e4 : (((i % 4 : Nat) : Int) * 32).toNat = i % 4 * 32 := by omega
  have e5 : (((i % 4 : Nat) : Int) * 32 + 32).toNat = i % 4 * 32 + 32 := by omega
  rw [if_pos ⟨by omega, by omega⟩, e3, if_pos ⟨by omega, by omega, by rw [hr]; omega⟩, e4, e5, Nat.add_sub_cancel_left]
def rebR (d : Disk) (T : List Int) (e : Nat) (b : List Int) (r : Nat) : List Int :=
  if r < 2 then (T.drop (128 * r)).take 128 else if r = 2 + e / 4 then spl (d.2.2.1.getD r []) (e % 4 * 32) 32 b else d.2.2.1.getD r []
def rebM (d : Disk) (T : List Int) (e : Nat) (b : List Int) : Disk := (d.1, (d.2.1, ((List.range d.2.2.1.length).map (rebR d T e b), ())))
theorem range_map_getD {n j : Nat} {f : Nat → List Int} (h : j < n) : ((List.range n).map f).getD j [] = f j := by
  simp [List.getD_eq_getElem?_getD, h]
theorem rebM_eq {d : Disk} (h2 : 10 < d.2.2.1.length) {rows : List (List Int)} (hl : rows.length = d.2.2.1.length) (h : r128 rows) (hge : ∀ r, 2 ≤ r → rows.getD r [] = d.2.2.1.getD r []) {e : Nat} (he : e < 32) {b : List Int} :
    rebM d (rtab rows) e b = (d.1, (d.2.1, (rows.set (2 + e / 4) (spl (rows.getD (2 + e / 4) []) (e % 4 * 32) 32 b), ()))) := by
  unfold rebM
  congr 3
  refine getD_ext [] (by rw [List.length_map, List.length_range, List.length_set, hl]) fun j hj => ?_
  rw [List.length_map, List.length_range] at hj
  rw [range_map_getD hj, setGetD (by omega)]
  unfold rebR
  by_cases c : j < 2
  · rw [if_pos c, if_neg (by omega), rtab_row h (by omega) c]
  · rw [if_neg c]
    by_cases c2 : j = 2 + e / 4
    · rw [if_pos c2, if_pos c2.symm, c2, hge _ (by omega)]
    · rw [if_neg c2, if_neg (fun h => c2 h.symm), hge _ (by omega)]
theorem reb41 {d : Disk} (h : GoodD d) {T : List Int} (hT : T.length = 256) {e : Nat} (he : e < 32) {b : List Int} (hb : b.length = 32) : f41 d T (e : Int) b = some ((rebM d T e b, ()), ()) := by
  have hg := h.gt
  have hle := h.le
  have e1 : Int.tdiv (e : Int) 4 = ((e / 4 : Nat) : Int) := (Int.ofNat_tdiv e 4).symm
  have e2 : Int.tmod (e : Int) 4 = ((e % 4 : Nat) : Int) := (Int.ofNat_tmod e 4).symm
  have hlp : f41_l3 T (e : Int) b d.2.2.1 ((List.length d.2.2.1 : Nat) : Int) ((0 : Int), ((0 : Int), (([] : List (List Int)), ()))) ((0 : Int), (d.1, (d.2.1, ([], ())))) = some (rebM d T e b) := by
    unfold f41_l3
    refine loop_go (fun j => ((j : Int), (d.1, (d.2.1, ((List.range j).map (rebR d T e b), ()))))) d.2.2.1.length rfl (fun j hj => ?_) ?_
    · have hroom : (j + 1) * 24 ≤ most ∧ 0 < 24 ∧ 0 < 1 := ⟨by rw [most_eq]; omega, by decide, by decide⟩
      have hlen : ((List.range j).map (rebR d T e b)).length = j := by rw [List.length_map, List.length_range]
      have hrow := h.len hj
      have hsucc : (List.range (j + 1)).map (rebR d T e b) = (List.range j).map (rebR d T e b) ++ [rebR d T e b j] := by rw [List.range_succ, List.map_append]; rfl
      unfold f41_l3_g f41_l3_k
      rw [dlt hj]
      simp only [cond_true]
      rw [if_pos (in_row hj), Int.toNat_natCast, clone76 _ (by omega)]
      simp only [some_bind]
      rw [hsucc]
      by_cases c : j < 2
      · rw [decide_eq_true (show (j : Int) < 2 by omega)]
        simp only [cond_true]
        rw [wi (n := 128 * (j : Int)) (by omega) (by omega)]
        have e3 : (128 * (j : Int)).toNat = 128 * j := by omega
        have e4 : List.take (((List.length T : Nat) : Int).toNat - 128 * j) (List.drop (128 * j) T) = T.drop (128 * j) := by
          rw [Int.toNat_natCast, List.take_of_length_le (by rw [List.length_drop]; omega)]
        rw [e3, e4, if_pos ⟨by omega, by omega, by omega⟩]
        have e5 : min (List.length (T.drop (128 * j))) (d.2.2.1.getD j []).length = 128 := by rw [List.length_drop]; omega
        rw [e5, if_pos ⟨by rw [List.length_drop]; omega, by omega⟩, hlen, if_pos hroom, wj (by omega)]
        have e6 : spl (d.2.2.1.getD j []) 0 128 (T.drop (128 * j)) = rebR d T e b j := by
          unfold rebR spl
          rw [if_pos c, List.take_zero, List.nil_append, show List.drop (0 + 128) (d.2.2.1.getD j []) = [] from List.drop_of_length_le (by omega), List.append_nil]
        rw [e6]
      · rw [decide_eq_false (show ¬ (j : Int) < 2 by omega)]
        simp only [cond_false]
        rw [e1, e2, wi (n := ((e / 4 : Nat) : Int)) (by omega) (by omega), wi (n := 2 + ((e / 4 : Nat) : Int)) (by omega) (by omega)]
        by_cases c2 : j = 2 + e / 4
        · have : ((j : Int) == 2 + ((e / 4 : Nat) : Int)) = true := by rw [beq_iff_eq]; omega
          rw [this]
          simp only [cond_true]
          rw [wi (n := 32 * ((e % 4 : Nat) : Int)) (by omega) (by omega)]
          have e3 : (32 * ((e % 4 : Nat) : Int)).toNat = e % 4 * 32 := by omega
          rw [e3, if_pos ⟨by omega, by omega, by omega⟩, Int.toNat_natCast, hb, if_pos ⟨by omega, by omega⟩]
          have e5 : min 32 ((d.2.2.1.getD j []).length - e % 4 * 32) = 32 := by omega
          rw [e5, hlen, if_pos hroom, wj (by omega)]
          have e6 : spl (d.2.2.1.getD j []) (e % 4 * 32) 32 b = rebR d T e b j := by
            unfold rebR
            rw [if_neg c, if_pos c2]
          rw [e6]
        · have : ((j : Int) == 2 + ((e / 4 : Nat) : Int)) = false := by rw [beq_eq_false_iff_ne]; omega
          rw [this]
          simp only [cond_false]
          rw [hlen, if_pos hroom, wj (by omega)]
          have e6 : d.2.2.1.getD j [] = rebR d T e b j := by
            unfold rebR
            rw [if_neg c, if_neg c2]
          rw [← e6]
    · unfold f41_l3_g f41_l3_k
      rw [dge]
      rfl
  unfold f41 f41_k
  rw [hlp]
  rfl
end Go.Proofs.Ytmfjebpdkgbggaa.V
