/- Chains: files that are read. -/
import Derived.Test.YtlgbhaigpecdoaaVPureChainChecks
import Derived.Test.YtlgbhaigpecdoaaVFnChainR
set_option linter.unusedVariables false
set_option linter.unusedSimpArgs false
namespace Go.Proofs.Ytlgbhaigpecdoaa.V
open Go

/-- With less that is used, the same sectors. -/
theorem walk_fresh {d : Disk} : ∀ (k : Nat) (c : Int) (u u2 : List Bool) (out out2 : List Int) {r : List Bool × List Int}, 0 ≤ c → u.length = d.2.2.1.length → u2.length = d.2.2.1.length → (∀ i : Nat, u2.getD i false = true → u.getD i false = true) → walkM d k c u out = .inr r →
    ∃ r2 l, walkM d k c u2 out2 = .inr r2 ∧ r.2 = out ++ l ∧ r2.2 = out2 ++ l ∧ (∀ s ∈ l, 10 ≤ s ∧ s < (d.2.2.1.length : Int)) ∧ (∀ i : Nat, u.getD i false = true → r.1.getD i false = true) := by
  intro k
  induction k with
  | zero => intro c u u2 out out2 r _ _ _ _ h; cases h
  | succ k ih =>
    intro c u u2 out out2 r hc hl hl2 hsub h
    unfold walkM at h ⊢
    split at h
    · rename_i c1
      cases h
      rw [if_pos c1]
      exact ⟨_, [], rfl, by simp, by simp, fun s hs => by simp at hs, fun i hi => hi⟩
    · rename_i c1
      rw [if_neg c1]
      split at h
      · cases h
      · rename_i c2
        rw [if_neg c2]
        split at h
        · cases h
        · rename_i c3
          rw [if_neg c3]
          split at h
          · cases h
          · rename_i c4
            rw [if_neg c4]
            split at h
            · cases h
            · rename_i c5
              have c6 : ¬ u2.getD c.toNat false = true := fun hh => c5 (hsub _ hh)
              rw [if_neg c6]
              have hset : ∀ (w : List Bool) (i : Nat), w.length = d.2.2.1.length → (w.set c.toNat true).getD i false = if c.toNat = i then true else w.getD i false := fun w i hw => by
                rw [List.getD_eq_getElem?_getD, List.getElem?_set]
                by_cases e : c.toNat = i
                · rw [if_pos e, if_pos e, if_pos (by omega)]; rfl
                · rw [if_neg e, if_neg e, ← List.getD_eq_getElem?_getD]
              have hmono : ∀ i : Nat, (u2.set c.toNat true).getD i false = true → (u.set c.toNat true).getD i false = true := fun i hi => by
                rw [hset u2 i hl2] at hi
                rw [hset u i hl]
                by_cases e : c.toNat = i
                · rw [if_pos e]
                · rw [if_neg e] at hi ⊢; exact hsub i hi
              by_cases htb : 0 ≤ tb d c.toNat
              · obtain ⟨r2, l, h1, h2, h3, h4, h5⟩ := ih (tb d c.toNat) (u.set c.toNat true) (u2.set c.toNat true) (out ++ [c]) (out2 ++ [c]) htb (by rw [List.length_set]; exact hl) (by rw [List.length_set]; exact hl2) hmono h
                refine ⟨r2, c :: l, h1, by rw [h2]; simp, by rw [h3]; simp, fun s hs => ?_, fun i hi => h5 i ?_⟩
                · rcases List.mem_cons.1 hs with rfl | hs
                  · omega
                  · exact h4 s hs
                · rw [hset u i hl]
                  by_cases e : c.toNat = i
                  · rw [if_pos e]
                  · rw [if_neg e]; exact hi
              · cases k with
                | zero => cases h
                | succ k =>
                  unfold walkM at h
                  rw [if_neg (by omega), if_pos (by omega)] at h
                  cases h
/-- The sectors of an entry's file, and its bytes. -/
def secsOf (d : Disk) (i : Nat) : List Int := match folM d (slotL d i) (noneU d) with | .inr r => r.2 | .inl _ => []
def rowsOfD (d : Disk) (l : List Int) : List Int := (l.map fun s => d.2.2.1.getD s.toNat []).flatten
def dataOf (d : Disk) (i : Nat) : List Int := (rowsOfD d (secsOf d i)).take (sizeB (slotL d i)).toNat
structure SecOk (d : Disk) (i : Nat) : Prop where
  fol : ∃ u, folM d (slotL d i) (noneU d) = .inr (u, secsOf d i)
  len : ((secsOf d i).length : Int) = need (slotL d i)
  rng : ∀ s ∈ secsOf d i, 10 ≤ s ∧ s < (d.2.2.1.length : Int)
theorem sec_ok {d : Disk} (h : GoodD d) {i : Nat} (hi : i < 32) {u : List Bool} (hu : u.length = d.2.2.1.length) {r : List Bool × List Int} (hf : folM d (slotL d i) u = .inr r) : SecOk d i ∧ r.2 = secsOf d i := by
  have hb := slotL_byte h hi
  have h20 := byteL_getD hb 20
  have hu2 : (noneU d).length = d.2.2.1.length := List.length_replicate
  unfold folM at hf
  split at hf
  · cases hf
  · rename_i r' hw
    split at hf
    · cases hf
    · rename_i hn
      cases hf
      have hn : (r.2.length : Int) = need (slotL d i) := by simpa using hn
      obtain ⟨r2, l, h1, h2, h3, h4, h5⟩ := walk_fresh 241 _ u (noneU d) [] [] h20.1 hu hu2 (fun j hj => by
        unfold noneU at hj
        rw [List.getD_eq_getElem?_getD, List.getElem?_replicate] at hj
        split at hj <;> cases hj) hw
      have e1 : r.2 = l := by simpa using h2
      have e2 : r2.2 = l := by simpa using h3
      have hfol : folM d (slotL d i) (noneU d) = .inr r2 := by
        unfold folM
        rw [h1]
        simp only
        rw [if_neg (by rw [e2, ← e1]; simpa using hn)]
      have hs : secsOf d i = l := by unfold secsOf; rw [hfol]; exact e2
      refine ⟨⟨⟨r2.1, by rw [hfol, hs, ← e2]⟩, by rw [hs, ← e1]; exact hn, by rw [hs]; exact h4⟩, by rw [hs, e1]⟩
theorem ch_secs {d : Disk} (h : GoodD d) : ∀ (es : List (Nat × List Int)) (u : List Bool) (acc : List Lk) {q : List Bool × List Lk}, (∀ p ∈ es, p.1 < 32) → u.length = d.2.2.1.length → chM d es u acc = .inr q →
    (∀ p ∈ es, SecOk d p.1) ∧ q.2 = acc ++ es.map fun p => secOf (lk d p) (secsOf d p.1)
  | [], u, acc, q, _, _, hc => by cases hc; exact ⟨fun p hp => by simp at hp, by simp⟩
  | p :: es, u, acc, q, he, hu, hc => by
    unfold chM at hc
    cases hf : folM d (slotL d p.1) u with
    | inl e' => rw [hf] at hc; cases hc
    | inr r =>
      rw [hf] at hc
      obtain ⟨h1, h2⟩ := sec_ok h (he p (List.mem_cons_self ..)) hu hf
      obtain ⟨h3, h4⟩ := ch_secs h es r.1 _ (fun x hx => he x (List.mem_cons_of_mem _ hx)) (by rw [folM_len hf]; exact hu) hc
      refine ⟨fun x hx => ?_, ?_⟩
      · rcases List.mem_cons.1 hx with rfl | hx
        · exact h1
        · exact h3 x hx
      · rw [h4, h2]; simp
theorem rows_len {d : Disk} (h : GoodD d) : ∀ {l : List Int}, (∀ s ∈ l, 10 ≤ s ∧ s < (d.2.2.1.length : Int)) → (rowsOfD d l).length = 128 * l.length
  | [], _ => rfl
  | s :: l, hs => by
    have h1 := hs s (List.mem_cons_self ..)
    have ih := rows_len h (l := l) (fun x hx => hs x (List.mem_cons_of_mem _ hx))
    unfold rowsOfD at ih ⊢
    rw [List.map_cons, List.flatten_cons, List.length_append, ih, h.len (by omega), List.length_cons]; omega
theorem rows_take {d : Disk} {l : List Int} {j : Nat} (hj : j < l.length) : rowsOfD d (l.take (j + 1)) = rowsOfD d (l.take j) ++ d.2.2.1.getD (l.getD j 0).toNat [] := by
  unfold rowsOfD
  rw [take_succ_getD (d := 0) hj, List.map_append, List.flatten_append]
  simp
theorem need_size {b : List Int} (hb : byteL b) : sizeB b ≤ 128 * need b := by
  have hs := sizeB_le hb
  obtain ⟨m, hm⟩ : ∃ m : Nat, sizeB b + 127 = (m : Int) := ⟨(sizeB b + 127).toNat, by omega⟩
  have : need b = ((m / 128 : Nat) : Int) := by unfold need; rw [hm]; exact (Int.ofNat_tdiv m 128).symm
  omega
theorem read126 {d : Disk} (h : GoodD d) {i : Nat} (hi : i < 32) (ho : SecOk d i) : f126 d (slotL d i) = some ((dataOf d i, ()), ()) := by
  obtain ⟨⟨u, hu⟩, hlen, hrng⟩ := ho
  have hb := slotL_byte h hi
  have hl := slotL_len h hi
  have hs := sizeB_le hb
  have hn := need_le hb
  have hle := h.le
  have hns := need_size hb
  have h21 := byteL_getD hb 21
  have h22 := byteL_getD hb 22
  have hnl : (noneU d).length = d.2.2.1.length := List.length_replicate
  obtain ⟨r, r1, r2⟩ := fol120 h hb hl hnl
  rw [hu] at r2
  have r2 : r = ((secsOf d i, (0, ())), (u, ())) := r2
  unfold f126 f126_k
  rw [if_pos ⟨by omega, Int.le_refl _, by rw [most_eq]; omega, by decide, by decide⟩, Int.toNat_natCast]
  have r1 : f120 d (slotL d i) (List.replicate (List.length d.2.2.1) false) = some r := r1
  rw [r1, r2]
  simp only [some_bind]
  have hsum : ∀ j, (rowsOfD d ((secsOf d i).take j)).length ≤ 128000 := fun j => by
    rw [rows_len h (in_take hrng j), List.length_take]; omega
  have hloop : f126_l4 (slotL d i) ((List.length (secsOf d i) : Nat) : Int) d (secsOf d i) ((0 : Int), []) = some (rowsOfD d (secsOf d i)) := by
    unfold f126_l4
    refine loop_go (fun j => ((j : Int), rowsOfD d ((secsOf d i).take j))) (secsOf d i).length rfl (fun j hj => ?_) ?_
    · have hr := hrng _ (getD_mem (d := 0) hj)
      have h1 := hsum (j + 1)
      rw [rows_take hj, List.length_append] at h1
      unfold f126_l4_g f126_l4_k
      simp only
      rw [dlt hj]
      simp only [cond_true]
      rw [if_pos (in_row hj), Int.toNat_natCast, if_pos ⟨by omega, by omega⟩, if_pos ⟨by rw [most_eq]; omega, by decide, by decide⟩, wj (by omega), rows_take hj]
    · unfold f126_l4_g f126_l4_k
      simp only
      rw [dge, List.take_length]; rfl
  rw [hloop]
  simp only [some_bind]
  rw [wi (n := (slotL d i).getD 21 0) (by omega) (by omega), wi (n := (slotL d i).getD 22 0) (by omega) (by omega)]
  have e1 : IntKind.i64.wrap ((slotL d i).getD 21 0 * 2 ^ (min 8 64)) = 256 * (slotL d i).getD 21 0 := by
    rw [show (2 : Int) ^ (min 8 64) = 256 by decide, wi (by omega) (by omega)]; omega
  rw [e1, wi (n := 256 * (slotL d i).getD 21 0 + (slotL d i).getD 22 0) (by omega) (by omega), if_pos ⟨by omega, by omega⟩, if_pos ⟨by omega, by omega⟩]
  have e2 : 256 * (slotL d i).getD 21 0 + (slotL d i).getD 22 0 = sizeB (slotL d i) := rfl
  have hrl := rows_len h hrng
  rw [e2, if_pos ⟨by omega, by omega, by omega⟩, Nat.sub_zero, List.drop_zero]
  rfl
theorem gathered127 {d : Disk} (h : GoodD d) {i : Nat} (hi : i < 32) (ho : SecOk d i) : f127 d (secsOf d i) (sizeB (slotL d i)) = some ((dataOf d i, ()), ()) := by
  obtain ⟨⟨u, hu⟩, hlen, hrng⟩ := ho
  have hb := slotL_byte h hi
  have hs := sizeB_le hb
  have hn := need_le hb
  have hle := h.le
  have hns := need_size hb
  have hsum : ∀ j, (rowsOfD d ((secsOf d i).take j)).length ≤ 128000 := fun j => by
    rw [rows_len h (in_take hrng j), List.length_take]; omega
  have hloop : f127_l3 (sizeB (slotL d i)) (secsOf d i) ((List.length (secsOf d i) : Nat) : Int) d ((0 : Int), []) = some (rowsOfD d (secsOf d i)) := by
    unfold f127_l3
    refine loop_go (fun j => ((j : Int), rowsOfD d ((secsOf d i).take j))) (secsOf d i).length rfl (fun j hj => ?_) ?_
    · have hr := hrng _ (getD_mem (d := 0) hj)
      have h1 := hsum (j + 1)
      rw [rows_take hj, List.length_append] at h1
      unfold f127_l3_g f127_l3_k
      simp only
      rw [dlt hj]
      simp only [cond_true]
      rw [if_pos (in_row hj), Int.toNat_natCast, if_pos ⟨by omega, by omega⟩, if_pos ⟨by rw [most_eq]; omega, by decide, by decide⟩, wj (by omega), rows_take hj]
    · unfold f127_l3_g f127_l3_k
      simp only
      rw [dge, List.take_length]; rfl
  have hrl := rows_len h hrng
  unfold f127 f127_k
  rw [hloop]
  simp only [some_bind]
  have hv : (if ((List.length (rowsOfD d (secsOf d i)) : Nat) : Int) < sizeB (slotL d i) then ((List.length (rowsOfD d (secsOf d i)) : Nat) : Int) else sizeB (slotL d i)) = sizeB (slotL d i) := if_neg (by omega)
  have hc : (0 : Int) ≤ 0 ∧ (0 : Int) ≤ sizeB (slotL d i) ∧ sizeB (slotL d i) ≤ ((List.length (rowsOfD d (secsOf d i)) : Nat) : Int) := ⟨by omega, by omega, by omega⟩
  rw [hv, if_pos hc, Nat.sub_zero, List.drop_zero]
  rfl
end Go.Proofs.Ytlgbhaigpecdoaa.V
