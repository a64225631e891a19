/- Chains: the reference's directory. -/
import Derived.Test.YtmfjebpdkgbggaaVPureChainD
set_option linter.unusedVariables false
set_option linter.unusedSimpArgs false
namespace Go.Proofs.Ytmfjebpdkgbggaa.V
open Go
abbrev Lk := Int × (ByteArray × (Int × (List Int × Unit)))
def sizeB (b : List Int) : Int := 256 * b.getD 21 0 + b.getD 22 0
theorem sizeB_le {b : List Int} (h : byteL b) : 0 ≤ sizeB b ∧ sizeB b ≤ 65535 := by
  have h1 := byteL_getD h 21
  have h2 := byteL_getD h 22
  unfold sizeB; omega
def lk (d : Disk) (p : Nat × List Int) : Lk := ((p.1 : Int), (b2s p.2, (sizeB (slotL d p.1), ([], ()))))
def allL (d : Disk) : List Int := (List.take 8 (List.drop 2 d.2.2.1)).flatten
theorem all_rows {d : Disk} (h : GoodD d) : ∀ x ∈ List.take 8 (List.drop 2 d.2.2.1), x.length = 128 := fun x hx => h.row x (List.mem_of_mem_drop (List.mem_of_mem_take hx))
theorem all_cnt {d : Disk} (h : GoodD d) : (List.take 8 (List.drop 2 d.2.2.1)).length = 8 := by
  have := h.gt
  rw [List.length_take, List.length_drop]; omega
theorem allL_len {d : Disk} (h : GoodD d) : (allL d).length = 1024 := (flat_len (all_rows h)).trans (by rw [all_cnt h])
theorem allL_getD {d : Disk} (h : GoodD d) {k : Nat} (hk : k < 1024) : (allL d).getD k 0 = (d.2.2.1.getD (2 + k / 128) []).getD (k % 128) 0 := by
  unfold allL
  rw [flat_getD k (all_rows h) (by rw [all_cnt h]; omega)]
  congr 1
  rw [List.getD_eq_getElem?_getD, List.getElem?_take_of_lt (by omega), List.getElem?_drop, List.getD_eq_getElem?_getD]
theorem slotL_getD {d : Disk} {i j : Nat} (hj : j < 32) : (slotL d i).getD j 0 = (d.2.2.1.getD (2 + i / 4) []).getD (i % 4 * 32 + j) 0 := by
  unfold slotL
  rw [getD_take hj, getD_drop]
theorem all_slot {d : Disk} (h : GoodD d) {i : Nat} (hi : i < 32) : ((allL d).drop (32 * i)).take 32 = slotL d i := by
  have hl := allL_len h
  refine getD_ext (d := 0) (by rw [List.length_take, List.length_drop, slotL_len h hi, hl]; omega) (fun j hj => ?_)
  rw [List.length_take, List.length_drop, hl] at hj
  rw [getD_take (by omega), getD_drop, allL_getD h (by omega), slotL_getD (by omega)]
  have e1 : (32 * i + j) / 128 = i / 4 := by omega
  have e2 : (32 * i + j) % 128 = i % 4 * 32 + j := by omega
  rw [e1, e2]
theorem contains144 {d : Disk} {es : List (Nat × List Int)} {nm : List Int} (he : ∀ p ∈ es, byteL p.2) (hn : byteL nm) (hl : es.length ≤ 140737488355328) : f43 (es.map (lk d)) (nm, ()) = some ((decide (nm ∈ es.map (·.2)), ()), ()) := by
  have hlen : (es.map (lk d)).length = es.length := List.length_map _
  have hin : ∀ j : Nat, j < es.length → f45_l2_g (es.map (lk d)) nm ((List.length (es.map (lk d)) : Nat) : Int) (j : Int) = some (if decide ((es.getD j (0, [])).2 = nm) = true then .inr (.inl (j : Int)) else .inl ((j : Int) + 1)) := fun j hj => by
    unfold f45_l2_g f45_l2_k
    rw [hlen, dlt hj]
    simp only [cond_true]
    rw [if_pos ⟨by omega, by omega⟩, Int.toNat_natCast, wj (by omega)]
    have eg : (es.map (lk d)).getD j ((0 : Int), (ByteArray.empty, ((0 : Int), (([] : List Int), ())))) = lk d (es.getD j (0, [])) := by
      rw [List.getD_eq_getElem?_getD, List.getElem?_map, List.getD_eq_getElem?_getD, List.getElem?_eq_getElem hj]; rfl
    rw [eg]
    simp only [f77, f77_k, some_bind, lk]
    rw [strEq_b2s (he _ (getD_mem hj)) hn]
    cases decide ((es.getD j (0, [])).2 = nm) <;> rfl
  have hout : f45_l2_g (es.map (lk d)) nm ((List.length (es.map (lk d)) : Nat) : Int) (es.length : Int) = some (.inr (.inr ())) := by
    unfold f45_l2_g f45_l2_k
    rw [hlen, dge]; rfl
  unfold f43 f43_k f45 f45_k f45_l2
  rcases search (Y := Int ⊕ Unit) es.length (fun j => decide ((es.getD j (0, [])).2 = nm)) (fun m => .inl (m : Int)) (.inr ()) hin hout with ⟨m, m1, m2, m3, e⟩ | ⟨m1, e⟩
  · rw [e]
    have hm : nm ∈ es.map (·.2) := List.mem_map.2 ⟨_, getD_mem m1, of_decide_eq_true m2⟩
    simp only [some_bind, Sum.elim_inl]
    rw [decide_eq_true hm, decide_eq_true (by omega)]
  · rw [e]
    have hm : ¬ nm ∈ es.map (·.2) := by
      intro hm
      obtain ⟨p, hp, hpe⟩ := List.mem_map.1 hm
      obtain ⟨j, hj, rfl⟩ := mem_getD (0, []) hp
      exact of_decide_eq_false (m1 j hj) hpe
    simp only [some_bind, Sum.elim_inr]
    rw [decide_eq_false hm]; rfl
theorem nz9 {b : List Int} (hb : byteL b) {n : Nat} (hl : b.length = n) {m : Int} (hm : m = n) : ∃ r, f74 b [0] = some ((r, ()), ()) ∧ (r != m) = nz b := by
  refine ⟨_, count121 hb (c := 0) (by decide), ?_⟩
  have h1 := count_nz (l := b)
  have h2 : b.countP (· == 0) ≤ b.length := List.countP_le_length
  rw [hl] at h1 h2
  cases hz : nz b with
  | false => rw [h1.2 hz, hm]; simp
  | true =>
    have : b.countP (· == 0) ≠ n := fun e => by rw [h1.1 e] at hz; cases hz
    simp; omega
theorem dir116 {d : Disk} (h : GoodD d) (n : Int) (tab : List Int) : f40_l20 n (allL d) tab ((0 : Int), []) = some (match dirM d with | .inl e => .inl e | .inr es => .inr (es.map (lk d))) := by
  have hal := allL_len h
  have := loop_list (A := Nat) (S := List (Nat × List Int)) (g := f40_l20_g n (allL d) tab) (Y := Int ⊕ List Lk) 0 (List.range 32) (fun j es => ((j : Int), es.map (lk d))) (fun j es => EsOk d es ∧ es.length ≤ j)
    (fun i es => match entF d i es with | .inl es' => .inl es' | .inr (.inl e) => .inr (.inl e) | .inr (.inr es') => .inr (.inr (es'.map (lk d)))) (fun es => .inr (es.map (lk d))) (fun j es hj hp => by
      rw [List.length_range] at hj
      rw [range_getD hj]
      have hs := slotL_len h hj
      have hb := slotL_byte h hj
      have hnb := nmL_byte hb
      have hn20 := nmL_len (slotL d j)
      have hel := hp.2
      have hpb : ∀ p ∈ es, byteL p.2 := fun p hq => (hp.1 p hq).2.2.1
      refine ⟨?_, fun es' he => ?_⟩
      · unfold f40_l20_g f40_l20_k
        simp only
        rw [decide_eq_true (by omega)]
        simp only [cond_true]
        rw [wi (n := 32 * (j : Int)) (by omega) (by omega), wi (n := 32 * (j : Int) + 32) (by omega) (by omega), wj (j := j) (by omega)]
        have e1 : (32 * (j : Int) + 32).toNat - (32 * (j : Int)).toNat = 32 := by omega
        have e2 : (32 * (j : Int)).toNat = 32 * j := by omega
        rw [if_pos ⟨by omega, by omega, by rw [hal]; omega⟩, e1, e2, all_slot h hj, List.drop_zero]
        have hc : (0 : Int) ≤ 0 ∧ (0 : Int) < ((List.length (slotL d j) : Nat) : Int) := ⟨by omega, by omega⟩
        have hc20 : (0 : Int) ≤ 0 ∧ (0 : Int) ≤ 20 ∧ (20 : Int) ≤ ((List.length (slotL d j) : Nat) : Int) := ⟨by omega, by omega, by omega⟩
        have hc23 : (0 : Int) ≤ 23 ∧ (23 : Int) ≤ ((List.length (slotL d j) : Nat) : Int) ∧ ((List.length (slotL d j) : Nat) : Int) ≤ ((List.length (slotL d j) : Nat) : Int) := ⟨by omega, by omega, by omega⟩
        have hc21 : (0 : Int) ≤ 21 ∧ (21 : Int) < ((List.length (slotL d j) : Nat) : Int) := ⟨by omega, by omega⟩
        have hc22 : (0 : Int) ≤ 22 ∧ (22 : Int) < ((List.length (slotL d j) : Nat) : Int) := ⟨by omega, by omega⟩
        obtain ⟨r1, q1, q2⟩ := nz9 hb hs (m := 32) (by rfl)
        obtain ⟨z, q3⟩ := cut142 (byteL_take hb 20) (by rw [List.length_take]; omega)
        have q3 : f75 (List.take 20 (slotL d j)) [0] = some ((nmL (slotL d j), z), ()) := q3
        have l9 : ((slotL d j).drop 23).length = 9 := by rw [List.length_drop]; omega
        obtain ⟨r2, q4, q5⟩ := nz9 (byteL_drop hb 23) l9 (m := 9) (by rfl)
        have e23 : List.take (((List.length (slotL d j) : Nat) : Int).toNat - 23) ((slotL d j).drop 23) = (slotL d j).drop 23 := by
          rw [Int.toNat_natCast, List.take_of_length_le (by rw [List.length_drop]; omega)]
        have hx21 := byteL_getD hb 21
        have hx22 := byteL_getD hb 22
        rw [if_pos hc, q1, if_pos hc20, q3]
        simp only [some_bind]
        rw [q2, clone76 _ (by omega), wi (n := 20 - (((nmL (slotL d j)).length : Nat) : Int)) (by omega) (by omega)]
        simp only [some_bind]
        have e3 : (20 - (((nmL (slotL d j)).length : Nat) : Int)).toNat = 20 - (nmL (slotL d j)).length := by omega
        rw [e3, List.length_replicate, if_pos ⟨by omega, by rw [most_eq]; omega, rfl, by decide, by decide⟩, if_pos ⟨by rw [most_eq]; omega, by decide, by decide⟩, name40 hnb (by omega), if_pos hc20, if_pos hc23, if_pos hc21, if_pos hc22, e23, q4]
        simp only [some_bind, f76, f76_k]
        rw [q5, contains144 hpb hnb (by omega), strEq_b2s (a := nmL (slotL d j) ++ List.replicate (20 - (nmL (slotL d j)).length) 0) (b := (slotL d j).take 20) (fun x hx => by
          rcases List.mem_append.1 hx with hx | hx
          · exact hnb x hx
          · rw [(List.mem_replicate.1 hx).2]; decide) (byteL_take hb 20)]
        simp only [some_bind, entF, ent]
        rw [wi (n := (slotL d j).getD 21 0) (by omega) (by omega), wi (n := (slotL d j).getD 22 0) (by omega) (by omega), wi (n := 256 * (slotL d j).getD 21 0) (by omega) (by omega), wi (n := 256 * (slotL d j).getD 21 0 + (slotL d j).getD 22 0) (by omega) (by omega),
          List.length_map, if_pos ⟨by rw [most_eq]; omega, by decide, by decide⟩]
        by_cases c0 : (slotL d j).getD 0 0 = 0
        · have : ((slotL d j).getD 0 0 == 0) = true := by simpa using c0
          rw [this, if_pos c0]
          cases nz (slotL d j) <;> rfl
        · have : ((slotL d j).getD 0 0 == 0) = false := by simpa using c0
          rw [this, if_neg c0]
          simp only [cond_false]
          cases hn : nameOk (nmL (slotL d j)) with
          | false => rfl
          | true =>
            unfold endsOk
            by_cases hpd : nmL (slotL d j) ++ List.replicate (20 - (nmL (slotL d j)).length) 0 = (slotL d j).take 20
            · rw [decide_eq_true hpd]
              cases hz : nz ((slotL d j).drop 23) with
              | true => rfl
              | false =>
                by_cases hm : nmL (slotL d j) ∈ es.map (·.2)
                · rw [decide_eq_true hm]
                  simp only [if_pos hm]; rfl
                · rw [decide_eq_false hm]
                  simp only [if_neg hm]
                  simp [lk, sizeB, List.map_append]
            · rw [decide_eq_false hpd]; rfl
      · have hf : entF d j es = .inl es' := by
          cases hf : entF d j es with
          | inl x => rw [hf] at he; cases he; rfl
          | inr x => rw [hf] at he; cases x <;> cases he
        exact ⟨entF_ok h hj hp.1 hf, by have := entF_len hf; omega⟩) (fun es hp => by
      rw [List.length_range]; rfl) [] ⟨fun p hp => by simp at hp, by simp⟩ (x0 := ((0 : Int), [])) rfl
  unfold f40_l20
  rw [this]
  congr 1
  unfold dirM
  generalize ([] : List (Nat × List Int)) = s0
  generalize List.range 32 = l
  induction l generalizing s0 with
  | nil => rfl
  | cons a l ih =>
    rw [foldE_cons, foldE_cons]
    cases entF d a s0 with
    | inl s => exact ih s
    | inr y => cases y <;> rfl
end Go.Proofs.Ytmfjebpdkgbggaa.V
