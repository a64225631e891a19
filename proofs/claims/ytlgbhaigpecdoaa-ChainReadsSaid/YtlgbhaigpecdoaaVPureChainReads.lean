/- The pure statement of ChainReads: lists of files, and one of them. -/
import Derived.Test.YtlgbhaigpecdoaaVPureChainI
set_option linter.unusedVariables false
set_option linter.unusedSimpArgs false
namespace Go.Proofs.Ytlgbhaigpecdoaa.V
open Go

abbrev Fl := ByteArray × (List Int × Unit)
def fileOf (d : Disk) (i : Nat) : Fl := (b2s (nmL (slotL d i)), (dataOf d i, ()))
def isF (d : Disk) (i : Nat) : Bool := decide ((slotL d i).getD 0 0 ≠ 0)
/-- The entries that have files. -/
def idsM (d : Disk) : List Nat := (List.range 32).filter (isF d)
def filesM (d : Disk) : List Fl := (idsM d).map (fileOf d)
theorem ids_mem {d : Disk} {i : Nat} (h : i ∈ idsM d) : i < 32 ∧ isF d i = true := by
  unfold idsM at h
  rw [List.mem_filter, List.mem_range] at h
  exact h
theorem ids_len (d : Disk) : (idsM d).length ≤ 32 := by
  have := List.length_filter_le (isF d) (List.range 32)
  rw [List.length_range] at this
  exact this
/-- A valid disk, and what its chains give. -/
structure ValD (d : Disk) : Prop where
  good : GoodD d
  sec : ∀ i ∈ idsM d, SecOk d i
theorem list66 {d : Disk} (h : ValD d) : f66_l6 d ((0 : Int), []) = some (filesM d) := by
  have hg := h.good
  unfold f66_l6
  have := (loop_all (A := Nat) (S := List Fl) (g := f66_l6_g d) (y := filesM d) 0 (List.range 32) (fun j s => ((j : Int), s)) (fun j s => s.length ≤ j) (fun s i => if isF d i = true then s ++ [fileOf d i] else s) (fun j s hj hp => by
    rw [List.length_range] at hj
    rw [range_getD hj]
    have hs := slotL_len hg hj
    refine ⟨?_, by
      by_cases hi : isF d j = true
      · rw [if_pos hi, List.length_append, List.length_singleton]; omega
      · rw [if_neg hi]; omega⟩
    unfold f66_l6_g f66_l6_k
    simp only
    rw [decide_eq_true (by omega)]
    simp only [cond_true]
    rw [slot119 hg hj]
    simp only [some_bind]
    have hc : (0 : Int) ≤ 0 ∧ (0 : Int) < ((List.length (slotL d j) : Nat) : Int) := ⟨by omega, by omega⟩
    rw [if_pos hc, wj (by omega)]
    by_cases c0 : (slotL d j).getD 0 0 = 0
    · have e1 : ((slotL d j).getD 0 0 != 0) = false := by simpa using c0
      have e2 : ¬ (isF d j = true) := by unfold isF; simpa using c0
      rw [e1, if_neg e2]; rfl
    · have e1 : ((slotL d j).getD 0 0 != 0) = true := by simpa using c0
      have e2 : isF d j = true := by unfold isF; simpa using c0
      rw [e1, if_pos e2]
      simp only [cond_true]
      rw [name125 hs, read126 hg hj (h.sec j (by unfold idsM; exact List.mem_filter.2 ⟨List.mem_range.2 hj, e2⟩))]
      simp only [some_bind]
      rw [if_pos ⟨by rw [most_eq]; omega, by decide, by decide⟩]
      rfl) [] (by simp) (x0 := ((0 : Int), [])) rfl (fun _ => by
    rw [List.length_range]
    have e : (List.range 32).foldl (fun s i => if isF d i = true then s ++ [fileOf d i] else s) [] = filesM d := by
      have key : ∀ (l : List Nat) (s : List Fl), l.foldl (fun s i => if isF d i = true then s ++ [fileOf d i] else s) s = s ++ (l.filter (isF d)).map (fileOf d) := by
        intro l
        induction l with
        | nil => intro s; simp
        | cons i l ih =>
          intro s
          rw [List.foldl_cons, ih]
          by_cases hi : isF d i = true
          · rw [if_pos hi, List.filter_cons, if_pos hi]; simp
          · rw [if_neg hi, List.filter_cons, if_neg hi]
      have := key (List.range 32) []
      rw [List.nil_append] at this
      exact this
    rw [e]; rfl)).1
  exact this
theorem files67 {d : Disk} (h : ValD d) {ls : List Lk} (hls : ls = (idsM d).map fun i => secOf (lk d (i, nmL (slotL d i))) (secsOf d i)) : f67_l6 ls ((List.length ls : Nat) : Int) d ((0 : Int), []) = some (filesM d) := by
  have hg := h.good
  have hll : ls.length = (idsM d).length := by rw [hls, List.length_map]
  have h32 := ids_len d
  unfold f67_l6
  refine loop_go (fun j => ((j : Int), (filesM d).take j)) ls.length rfl (fun j hj => ?_) ?_
  · have hm : (idsM d).getD j 0 ∈ idsM d := getD_mem (by omega)
    have hi := ids_mem hm
    have eg : ls.getD j ((0 : Int), (ByteArray.empty, ((0 : Int), (([] : List Int), ())))) = secOf (lk d ((idsM d).getD j 0, nmL (slotL d ((idsM d).getD j 0)))) (secsOf d ((idsM d).getD j 0)) := by
      rw [hls, List.getD_eq_getElem?_getD, List.getElem?_map, List.getD_eq_getElem?_getD, List.getElem?_eq_getElem (by omega)]; rfl
    have ef : (filesM d).getD j (ByteArray.empty, (([] : List Int), ())) = fileOf d ((idsM d).getD j 0) := by
      unfold filesM
      rw [List.getD_eq_getElem?_getD, List.getElem?_map, List.getD_eq_getElem?_getD, List.getElem?_eq_getElem (by omega)]; rfl
    have hfl : (filesM d).length = (idsM d).length := List.length_map _
    unfold f67_l6_g f67_l6_k
    simp only
    rw [dlt hj]
    simp only [cond_true]
    rw [if_pos (in_row hj), Int.toNat_natCast, eg]
    have e1 : (secOf (lk d ((idsM d).getD j 0, nmL (slotL d ((idsM d).getD j 0)))) (secsOf d ((idsM d).getD j 0))).2.2.2.1 = secsOf d ((idsM d).getD j 0) := rfl
    have e2 : (secOf (lk d ((idsM d).getD j 0, nmL (slotL d ((idsM d).getD j 0)))) (secsOf d ((idsM d).getD j 0))).2.2.1 = sizeB (slotL d ((idsM d).getD j 0)) := rfl
    rw [e1, e2, gathered127 hg hi.1 (h.sec _ hm)]
    simp only [some_bind]
    rw [if_pos ⟨by rw [most_eq, List.length_take]; omega, by decide, by decide⟩, wj (by omega), take_succ_getD (d := (ByteArray.empty, (([] : List Int), ()))) (by omega), ef]
    rfl
  · unfold f67_l6_g f67_l6_k
    simp only
    rw [dge, List.take_of_length_le (by unfold filesM; rw [List.length_map]; omega)]; rfl
theorem equal24 {l : List Int} (hl : l.length ≤ 140737488355328) : f24 l l = some ((true, ()), ()) := by
  unfold f24 f24_k
  have : (((List.length l : Nat) : Int) != ((List.length l : Nat) : Int)) = false := by simp
  rw [this]
  simp only [cond_false]
  have hs : f24_l4 l l ((List.length l : Nat) : Int) 0 = some (.inr ()) := by
    unfold f24_l4
    refine loop_go (fun j => (j : Int)) l.length rfl (fun j hj => ?_) ?_
    · unfold f24_l4_g f24_l4_k
      rw [dlt hj]
      simp only [cond_true]
      rw [if_pos (in_row hj), if_pos (in_row hj), wj (by omega)]
      have : ((List.getD l (Int.toNat (j : Int)) 0) != (List.getD l (Int.toNat (j : Int)) 0)) = false := by simp
      rw [this]; rfl
    · unfold f24_l4_g f24_l4_k
      rw [dge]; rfl
  rw [hs]; rfl
theorem same68 {l : List Fl} (hl : l.length ≤ 1000) (hx : ∀ x ∈ l, x.2.1.length ≤ 140737488355328) : f68 l l = some ((true, ()), ()) := by
  unfold f68 f68_k f128 f128_k
  have : (((List.length l : Nat) : Int) != ((List.length l : Nat) : Int)) = false := by simp
  rw [this]
  simp only [cond_false]
  have hs : f128_l4 l l ((List.length l : Nat) : Int) 0 = some (.inr ()) := by
    unfold f128_l4
    refine loop_go (fun j => (j : Int)) l.length rfl (fun j hj => ?_) ?_
    · unfold f128_l4_g f128_l4_k
      rw [dlt hj]
      simp only [cond_true]
      rw [if_pos (in_row hj), if_pos (in_row hj), Int.toNat_natCast, wj (by omega)]
      have e1 : ∀ s, strEq s s = true := fun s => by unfold strEq; simp
      simp only [f129, f129_k, e1, cond_true]
      rw [equal24 (hx _ (getD_mem hj))]
      rfl
    · unfold f128_l4_g f128_l4_k
      rw [dge]; rfl
  rw [hs]; rfl
/-- The entry with a name. -/
def findM (d : Disk) (s : ByteArray) : Option Nat := (List.range 32).find? fun i => isF d i && strEq (b2s (nmL (slotL d i))) s
theorem find122 {d : Disk} (h : GoodD d) (s : ByteArray) : f122 d s = some ((match findM d s with | some i => (i : Int) | none => -1, ()), ()) := by
  have hin : ∀ j : Nat, j < 32 → f122_l2_g s d (j : Int) = some (if (isF d j && strEq (b2s (nmL (slotL d j))) s) = true then .inr (.inl (j : Int)) else .inl ((j : Int) + 1)) := fun j hj => by
    have hs := slotL_len h hj
    unfold f122_l2_g f122_l2_k
    rw [decide_eq_true (by omega)]
    simp only [cond_true]
    rw [slot119 h hj]
    simp only [some_bind]
    have hc : (0 : Int) ≤ 0 ∧ (0 : Int) < ((List.length (slotL d j) : Nat) : Int) := ⟨by omega, by omega⟩
    rw [if_pos hc, wj (by omega), name125 hs]
    simp only [some_bind]
    by_cases c0 : (slotL d j).getD 0 0 = 0
    · have e1 : ((slotL d j).getD 0 0 != 0) = false := by simpa using c0
      have e2 : isF d j = false := by unfold isF; simpa using c0
      rw [e1, e2]; rfl
    · have e1 : ((slotL d j).getD 0 0 != 0) = true := by simpa using c0
      have e2 : isF d j = true := by unfold isF; simpa using c0
      rw [e1, e2]
      cases strEq (b2s (nmL (slotL d j))) s <;> rfl
  unfold f122 f122_k f122_l2
  rcases search (Y := Int ⊕ Unit) 32 (fun i => isF d i && strEq (b2s (nmL (slotL d i))) s) (fun m => .inl (m : Int)) (.inr ()) hin (by unfold f122_l2_g f122_l2_k; rfl) with ⟨m, m1, m2, m3, e⟩ | ⟨m1, e⟩
  · have hf : findM d s = some m := by
      unfold findM
      rw [List.find?_range_eq_some]
      exact ⟨m2, List.mem_range.2 m1, fun j hj => by rw [m3 j hj]; rfl⟩
    rw [e, hf]; rfl
  · have hf : findM d s = none := by
      unfold findM
      rw [List.find?_range_eq_none]
      exact fun j hj => by rw [m1 j hj]; rfl
    rw [e, hf]; rfl
theorem index70 {d : Disk} (s : ByteArray) : (∃ k i, k < (filesM d).length ∧ findM d s = some i ∧ (filesM d).getD k (ByteArray.empty, (([] : List Int), ())) = fileOf d i ∧ i ∈ idsM d ∧ f70 (filesM d) (s, ()) = some (((k : Int), ()), ())) ∨ (findM d s = none ∧ f70 (filesM d) (s, ()) = some ((-1, ()), ())) := by
  have h32 := ids_len d
  have hfl : (filesM d).length = (idsM d).length := List.length_map _
  have ef : ∀ j, j < (idsM d).length → (filesM d).getD j (ByteArray.empty, (([] : List Int), ())) = fileOf d ((idsM d).getD j 0) := fun j hj => by
    unfold filesM
    rw [List.getD_eq_getElem?_getD, List.getElem?_map, List.getD_eq_getElem?_getD, List.getElem?_eq_getElem hj]; rfl
  have hfind : findM d s = (idsM d).find? fun i => strEq (b2s (nmL (slotL d i))) s := by
    unfold findM idsM
    rw [List.find?_filter]
    congr 1; funext i
    rw [Bool.eq_iff_iff]; simp
  have hin : ∀ j : Nat, j < (filesM d).length → f70_l2_g (filesM d) s ((List.length (filesM d) : Nat) : Int) (j : Int) = some (if (strEq (b2s (nmL (slotL d ((idsM d).getD j 0)))) s) = true then .inr (.inl (j : Int)) else .inl ((j : Int) + 1)) := fun j hj => by
    unfold f70_l2_g f70_l2_k
    rw [dlt hj]
    simp only [cond_true]
    rw [if_pos (in_row hj), Int.toNat_natCast, wj (by omega), ef j (by omega)]
    simp only [f71, f71_k, some_bind, fileOf]
    cases strEq (b2s (nmL (slotL d ((idsM d).getD j 0)))) s <;> rfl
  have hout : f70_l2_g (filesM d) s ((List.length (filesM d) : Nat) : Int) ((filesM d).length : Int) = some (.inr (.inr ())) := by
    unfold f70_l2_g f70_l2_k
    rw [dge]; rfl
  have e70 : f70 (filesM d) (s, ()) = (f70_l2 (filesM d) s ((List.length (filesM d) : Nat) : Int) 0).bind fun y2 => Sum.elim (fun z3 => some ((z3, ()), ())) (fun z4 => some (((-1 : Int), ()), ())) y2 := rfl
  rcases search (Y := Int ⊕ Unit) (filesM d).length (fun j => strEq (b2s (nmL (slotL d ((idsM d).getD j 0)))) s) (fun m => .inl (m : Int)) (.inr ()) hin hout with ⟨m, m1, m2, m3, e⟩ | ⟨m1, e⟩
  · refine .inl ⟨m, (idsM d).getD m 0, m1, ?_, ef m (by omega), getD_mem (by omega), ?_⟩
    · rw [hfind]
      have hd : idsM d = (idsM d).take m ++ (idsM d).getD m 0 :: (idsM d).drop (m + 1) := by
        conv => lhs; rw [← List.take_append_drop m (idsM d)]
        rw [List.drop_eq_getElem_cons (by omega : m < (idsM d).length)]
        congr 2
        rw [List.getD_eq_getElem?_getD, List.getElem?_eq_getElem (by omega)]; rfl
      rw [hd, List.find?_append]
      have hn : ((idsM d).take m).find? (fun i => strEq (b2s (nmL (slotL d i))) s) = none := by
        rw [List.find?_eq_none]
        intro x hx
        obtain ⟨j, hj, rfl⟩ := mem_getD 0 hx
        rw [List.length_take] at hj
        have hj' : j < m := by omega
        have e9 : ((idsM d).take m).getD j 0 = (idsM d).getD j 0 := by
          rw [List.getD_eq_getElem?_getD, List.getD_eq_getElem?_getD, List.getElem?_take_of_lt hj']
        rw [e9]
        have := m3 j hj'
        rw [this]; simp
      rw [hn, List.find?_cons, m2]
      have hg2 : (List.take m (idsM d) ++ (idsM d).getD m 0 :: List.drop (m + 1) (idsM d)) = idsM d := hd.symm
      simp
      rw [← List.getD_eq_getElem?_getD]
      have : (idsM d).getD m 0 = (List.take m (idsM d) ++ (idsM d).getD m 0 :: List.drop (m + 1) (idsM d)).getD m 0 := by rw [hg2]
      first | exact this | rfl | simp
    · rw [e70]
      unfold f70_l2
      rw [e]; rfl
  · refine .inr ⟨?_, ?_⟩
    · rw [hfind, List.find?_eq_none]
      intro x hx
      obtain ⟨j, hj, rfl⟩ := mem_getD 0 hx
      rw [m1 j (by omega)]; simp
    · rw [e70]
      unfold f70_l2
      rw [e]; rfl

theorem Pure.ChainReads (x0 : den (.pair (.int .i64) (.pair (.int .i64) (.pair (.slc (.slc (.int .u8))) .unit)))) (x1 : ByteArray) (w0 : ((Lit.int .i64 x0.1).wf = true) ∧ (((Lit.int .i64 x0.2.1).wf = true) ∧ ((∀ y0 ∈ x0.2.2.1, (∀ y1 ∈ y0, ((Lit.int .u8 y1).wf = true))) ∧ (True)))) (s0 : (True) ∧ ((True) ∧ ((List.length x0.2.2.1 * 24 ≤ 140737488351232 ∧ ∀ y0 ∈ x0.2.2.1, (List.length y0 * 1 ≤ 140737488351232 ∧ ∀ y1 ∈ y0, (True))) ∧ (True)))) (w1 : x1.size ≤ maxLen) (s1 : x1.size ≤ 140737488351232) : f14 x0 x1 = some ((true, ()), ()) := by
  have hb : ∀ x ∈ x0.2.2.1, byteL x := fun x hx y hy => wf_u8 (w0.2.2.1 x hx y hy)
  have hl : x0.2.2.1.length ≤ 140737488355328 := by have := s0.2.2.1.1; omega
  have w1' := (wf_i64 w0.1).2
  obtain ⟨r, r1, r2, r3⟩ := chains116 x0 hb hl w1'
  have h62 := check62 x0 hb hl
  show f14 x0 x1 = some ((true, ()), ())
  unfold f14 f14_k f66 f66_k f67 f67_k f69 f69_k
  rw [h62, r1]
  simp only [some_bind]
  rw [r2, begun38]
  by_cases c : chkM x0 = 0
  · obtain ⟨hg, ht, es, q, h1, h2, h3, h4⟩ := r3 c
    have e2 : (chkM x0 != 0) = false := by simpa using c
    obtain ⟨heo, hei⟩ := dir_good hg h1
    have hu : (noneU x0).length = x0.2.2.1.length := List.length_replicate
    obtain ⟨s1, s2⟩ := ch_secs hg es (noneU x0) [] (fun p hp => (heo p hp).1) hu h2
    have hids : es.map (·.1) = idsM x0 := hei
    have hv : ValD x0 := ⟨hg, fun i hi => by
      rw [← hids] at hi
      obtain ⟨p, hp, rfl⟩ := List.mem_map.1 hi
      exact s1 p hp⟩
    have hls : r.1.1 = (idsM x0).map fun i => secOf (lk x0 (i, nmL (slotL x0 i))) (secsOf x0 i) := by
      rw [h3, s2, ← hids, List.map_map, List.nil_append]
      apply List.map_congr_left
      intro p hp
      have := (heo p hp).2.1
      simp only [Function.comp]
      rw [← this]
    have h32 := ids_len x0
    have hfl : (filesM x0).length = (idsM x0).length := List.length_map _
    have hdat : ∀ i ∈ idsM x0, (dataOf x0 i).length ≤ 140737488355328 := fun i hi => by
      have hso := hv.sec i hi
      have hn := need_le (slotL_byte hg (ids_mem hi).1)
      have := hso.len
      have hrl := rows_len hg hso.rng
      unfold dataOf
      rw [List.length_take]; omega
    have hsame := same68 (l := filesM x0) (by omega) (fun x hx => by
      obtain ⟨i, hi, rfl⟩ := List.mem_map.1 hx
      exact hdat i hi)
    rw [e2]
    simp only [cond_false]
    rw [list66 hv, files67 hv hls]
    simp only [some_bind, Bool.not_true, cond_false]
    have z1 : ((0 : Int) != 0) = false := rfl
    have z2 : ((0 : Int) == 0) = true := rfl
    rw [z1]
    simp only [cond_false]
    rw [hsame, find122 hg]
    simp only [some_bind, Bool.not_true, cond_false]
    rcases index70 (d := x0) x1 with ⟨k, i, hk, hf, hgd, him, h70⟩ | ⟨hf, h70⟩
    · rw [hf, h70]
      simp only
      have hi := (ids_mem him).1
      rw [decide_eq_false (show ¬ ((i : Int) < 0) by omega)]
      simp only [cond_false]
      rw [slot119 hg hi]
      simp only [some_bind]
      rw [read126 hg hi (hv.sec i him)]
      simp only [some_bind]
      rw [z2, decide_eq_false (show ¬ ((k : Int) < 0) by omega)]
      simp only [cond_true, cond_false, f14_t9, f14_t9_k]
      rw [z1, z2]
      simp only [cond_true, cond_false]
      rw [if_pos (in_row hk), Int.toNat_natCast, hgd]
      have e9 : (fileOf x0 i).2.1 = dataOf x0 i := rfl
      rw [e9, equal24 (hdat i him)]
      rfl
    · rw [hf, h70]
      simp only
      rw [decide_eq_true (show (-1 : Int) < 0 by decide)]
      simp only [cond_true, some_bind]
      rw [z2]
      rfl
  · have e2 : (chkM x0 != 0) = true := by simpa using c
    have e3 : (chkM x0 == 0) = false := by simpa using c
    have e4 : (chkM x0 != chkM x0) = false := by simp
    have e5 : (chkM x0 == chkM x0) = true := by simp
    rw [e2]
    simp only [cond_true, some_bind, Bool.not_true, cond_false]
    rw [e4]
    simp only [cond_false]
    have hs0 : f68 [] [] = some ((true, ()), ()) := same68 (l := []) (by simp) (fun x hx => by simp at hx)
    rw [hs0]
    simp only [some_bind, Bool.not_true, cond_false]
    have h70 : f70 [] (x1, ()) = some ((-1, ()), ()) := by
      have e70 : f70 [] (x1, ()) = (f70_l2 [] x1 ((List.length ([] : List Fl) : Nat) : Int) 0).bind fun y2 => Sum.elim (fun z3 => some ((z3, ()), ())) (fun z4 => some (((-1 : Int), ()), ())) y2 := rfl
      have el : f70_l2 [] x1 ((List.length ([] : List Fl) : Nat) : Int) 0 = some (.inr ()) := by
        unfold f70_l2
        exact loopO_out rfl
      rw [e70, el]; rfl
    rw [h70]
    simp only [some_bind]
    rw [e3]
    simp only [cond_false, f14_t9, f14_t9_k]
    rw [e2, e5]
    rfl
end Go.Proofs.Ytlgbhaigpecdoaa.V
