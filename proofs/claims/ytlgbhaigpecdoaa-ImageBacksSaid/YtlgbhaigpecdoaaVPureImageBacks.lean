/- The pure statement of ImageBacks: the disk of tracks. -/
import Derived.Test.YtlgbhaigpecdoaaVPureSectS
import Derived.Test.YtlgbhaigpecdoaaVPureSame
set_option linter.unusedVariables false
set_option linter.unusedSimpArgs false
namespace Go.Proofs.Ytlgbhaigpecdoaa.V
open Go
theorem begun15 : f15 = some ((true, ()), ()) := by
  unfold f15 f15_k
  rw [new21]
  have hb : bad 2 3 = false := by decide
  simp only [hb, Bool.false_eq_true, if_false, some_bind]
  rw [check16 _ (by simp [blankD]), chk_blank hb]
  simp only [some_bind]
  rw [check16 _ (by simp)]
  simp [blankD, chkD]
abbrev zS : Sec := (0, (0, ([], (false, ()))))
abbrev zD : Disk := (0, (0, ([], ())))
structure GS (S : List Sec) : Prop where
  len : S.length ≤ 12
  all : ∀ s ∈ S, s.2.2.1.length = 128 ∧ byteL s.2.2.1 ∧ 0 ≤ s.2.1
theorem secs_good : ∀ (P : List Part), (∀ p ∈ P, byteL p.2.1) → ∀ s ∈ secsR P, s.2.2.1.length = 128 ∧ byteL s.2.2.1 ∧ 0 ≤ s.2.1
  | [], _, s, hs => by cases hs
  | [a], _, s, hs => by cases hs
  | a :: b :: l, h, s, hs => by
    have hs : s ∈ pairS a b ++ secsR (b :: l) := hs
    rcases List.mem_append.1 hs with hs | hs
    · unfold pairS at hs
      split at hs
      · rename_i hc
        simp only [List.mem_cons, List.not_mem_nil, or_false] at hs
        subst hs
        have hb := hc.2
        unfold bodS at hb
        simp only [Bool.and_eq_true, decide_eq_true_eq] at hb
        have ha := h a (List.mem_cons_self ..)
        have hbb := h b (List.mem_cons_of_mem _ (List.mem_cons_self ..))
        refine ⟨?_, byteL_take (byteL_drop hbb _) _, ?_⟩
        · simp only [mkS, List.length_take, List.length_drop]
          omega
        · show 0 ≤ a.2.1.getD 2 0
          by_cases h2 : 2 < a.2.1.length
          · exact (ha _ (getD_mem h2)).1
          · rw [List.getD_eq_getElem?_getD, List.getElem?_eq_none (by omega)]; decide
      · cases hs
    · exact secs_good (b :: l) (fun p hp => h p (List.mem_cons_of_mem _ hp)) s hs
theorem scanR_good (t : List Int) (cell : Int) : GS (scanR t cell).1 := by
  unfold scanR
  have z : ∀ e : Int, GS (([] : List Sec), (e, ())).1 := fun e => ⟨by simp, fun s hs => by cases hs⟩
  split
  · exact z _
  · split
    · exact z _
    · rename_i hl
      exact ⟨by dsimp only; omega, secs_good _ (fun p hp => ((readR_P t cell).2 p hp).2)⟩
theorem mfind_msetL (m : List (Int × List Int)) (a b : Int) (v : List Int) : mfind (.int .i64) (.slc (.int .u8)) (mset (.int .i64) (.slc (.int .u8)) m a v) b = if b = a then some v else mfind (.int .i64) (.slc (.int .u8)) m b := by
  induction m with
  | nil => simp [mset, mfind, keq]
  | cons p m ih =>
    simp only [mset]
    by_cases h : a = p.1
    · rw [if_pos (by simp [keq, h])]
      simp only [mfind, keq]
      by_cases h2 : b = p.1
      · simp [h, h2]
      · have : ¬ b = a := by rw [h]; exact h2
        simp [h2, this]
    · rw [if_neg (by simp [keq, h])]
      simp only [mfind, keq]
      by_cases h2 : b = p.1
      · have : ¬ b = a := by rw [h2]; exact fun e => h e.symm
        simp [h2, this]
        intro e; exact absurd e.symm h
      · simp [h2, ih]
structure RelT (n : Nat) (out : List (List Int)) (m : List (Int × List Int)) : Prop where
  len : out.length = n
  byt : ∀ x ∈ out, byteL x
  at' : ∀ k : Nat, k < n → mfind (.int .i64) (.slc (.int .u8)) m (k : Int) = if (out.getD k []).isEmpty = true then none else some (out.getD k [])
theorem RelT.set {n : Nat} {out : List (List Int)} {m : List (Int × List Int)} (h : RelT n out m) {k : Nat} (hk : k < n) {v : List Int} (hv : byteL v) (h0 : v.isEmpty = false) : RelT n (out.set k v) (mset (.int .i64) (.slc (.int .u8)) m (k : Int) v) := by
  refine ⟨by rw [List.length_set, h.len], fun x hx => ?_, fun j hj => ?_⟩
  · rcases List.mem_or_eq_of_mem_set hx with hx | hx
    · exact h.byt x hx
    · rw [hx]; exact hv
  · have hset : (out.set k v).getD j [] = if k = j then v else out.getD j [] := by
      rw [List.getD_eq_getElem?_getD, List.getElem?_set]
      by_cases e : k = j
      · rw [if_pos e, if_pos e, if_pos (by rw [h.len]; exact hk)]; rfl
      · rw [if_neg e, if_neg e, ← List.getD_eq_getElem?_getD]
    rw [mfind_msetL, hset]
    by_cases e : k = j
    · subst e
      rw [if_pos rfl, if_pos rfl, if_neg (by rw [h0]; simp)]
    · rw [if_neg (fun hh => e (by omega)), if_neg e]
      exact h.at' j hj
theorem RelT.zero (n : Nat) : RelT n (List.replicate n []) [] := by
  refine ⟨List.length_replicate, fun x hx => ?_, fun k hk => ?_⟩
  · rw [(List.mem_replicate.1 hx).2]; intro y hy; cases hy
  · have : (List.replicate n ([] : List Int)).getD k [] = [] := by
      rw [List.getD_eq_getElem?_getD, List.getElem?_replicate]; split <;> rfl
    rw [this]; rfl
theorem RelT.rows {n : Nat} {out : List (List Int)} {m : List (Int × List Int)} (h : RelT n out m) {k : Nat} (hk : k < n) : (mfind (.int .i64) (.slc (.int .u8)) m (k : Int)).getD [] = out.getD k [] := by
  rw [h.at' k hk]
  cases e : (out.getD k []).isEmpty with
  | true => rw [if_pos rfl, List.isEmpty_iff.1 e]; rfl
  | false => rw [if_neg (by simp)]; rfl
theorem track_sim {S : List Sec} (h : GS S) (t cell : Int) (l : List (List Int)) (nl t' : Int) (z : Disk) (d : Disk) (hd : d.2.1 = ((S.length : Nat) : Int)) :
    ∃ y y', f108_l3 t ((S.length : Nat) : Int) S ((S.length : Nat) : Int) ((0 : Int), List.replicate S.length []) = some y ∧
      f50_l18 cell t l nl t' S ((S.length : Nat) : Int) z d ((0 : Int), []) = some y' ∧
      ((∃ e : Int, e ≠ 0 ∧ y = .inl e ∧ y' = .inl (e, zD)) ∨ ∃ out m, y = .inr out ∧ y' = .inr m ∧ RelT S.length out m) := by
  unfold f108_l3 f50_l18
  refine loop_sim (fun x x' => ∃ (j : Nat) (out : List (List Int)) (m : List (Int × List Int)), x = ((j : Int), out) ∧ x' = ((j : Int), m) ∧ j ≤ S.length ∧ RelT S.length out m)
    (fun (y : f108_l3_Y) (y' : f50_l18_Y) => (∃ e : Int, e ≠ 0 ∧ y = .inl e ∧ y' = .inl (e, zD)) ∨ ∃ out m, y = .inr out ∧ y' = .inr m ∧ RelT S.length out m) (fun x => S.length - x.1.toNat) ?_ _ _ ⟨0, _, _, rfl, rfl, Nat.zero_le _, .zero _⟩
  rintro _ _ ⟨j, out, m, rfl, rfl, hj, hr⟩
  have hn := h.len
  rcases Nat.lt_or_ge j S.length with hlt | hge
  · obtain ⟨g1, g2, g3⟩ := h.all _ (getD_mem (d := zS) hlt)
    unfold f108_l3_g f108_l3_k f50_l18_g f50_l18_k
    simp only
    rw [dlt hlt]
    simp only [cond_true]
    rw [if_pos (in_row hlt), Int.toNat_natCast, if_pos (in_row hlt), hd]
    show _ ∨ _
    generalize hs : S.getD j zS = s at g1 g2 g3
    have hs' : S.getD j ((0 : Int), ((0 : Int), (([] : List Int), (false, ())))) = s := hs
    try simp only [hs']
    cases c1 : (s.1 != t) with
    | true => exact .inl ⟨_, _, rfl, rfl, .inl ⟨3, by decide, rfl, rfl⟩⟩
    | false =>
      simp only [cond_false]
      cases c2 : decide (s.2.1 ≥ ((S.length : Nat) : Int)) with
      | true => exact .inl ⟨_, _, rfl, rfl, .inl ⟨3, by decide, rfl, rfl⟩⟩
      | false =>
        simp only [cond_false]
        cases c3 : s.2.2.2.1 with
        | true => exact .inl ⟨_, _, rfl, rfl, .inl ⟨12, by decide, rfl, rfl⟩⟩
        | false =>
          simp only [cond_false]
          have c2' := of_decide_eq_false c2
          obtain ⟨k, hk⟩ : ∃ k : Nat, s.2.1 = (k : Int) := ⟨s.2.1.toNat, by omega⟩
          have hkl : k < S.length := by omega
          rw [hk, Int.toNat_natCast, hr.at' k hkl]
          have ho : (0 : Int) ≤ (k : Int) ∧ (k : Int) < ((List.length out : Nat) : Int) := ⟨by omega, by rw [hr.len]; omega⟩
          simp only [if_pos ho]
          cases c4 : (out.getD k []).isEmpty with
          | false =>
            simp only [Bool.not_false, cond_true, Bool.false_eq_true, if_false, Option.isSome_some]
            exact .inl ⟨_, _, rfl, rfl, .inl ⟨5, by decide, rfl, rfl⟩⟩
          | true =>
            simp only [Bool.not_true, cond_false, if_true, Option.isSome_none]
            have hpos : 0 < List.length s.2.2.1 := by omega
            rw [if_pos hpos, wj (by omega)]
            refine .inr ⟨_, _, rfl, rfl, ⟨j + 1, _, _, rfl, rfl, hlt, hr.set hkl g2 ?_⟩, ?_⟩
            · cases e : s.2.2.1 with
              | nil => rw [e] at hpos; simp at hpos
              | cons _ _ => rfl
            · simp only [Int.toNat_natCast]; omega
  · have : j = S.length := by omega
    subst this
    refine .inl ⟨.inr out, .inr m, ?_, ?_, .inr ⟨out, m, rfl, rfl, hr⟩⟩
    · unfold f108_l3_g f108_l3_k
      simp only
      rw [dge]; rfl
    · unfold f50_l18_g f50_l18_k
      simp only
      rw [dge]; rfl
structure GD (d : Disk) (j : Nat) : Prop where
  len : d.2.2.1.length ≤ 12 * j
  byt : ∀ x ∈ d.2.2.1, byteL x
theorem fill30 {n : Nat} {out : List (List Int)} {m : List (Int × List Int)} (h : RelT n out m) (cell : Int) (l : List (List Int)) (nl t' : Int) (z d : Disk) (hn : n ≤ 12) (hd : d.2.2.1.length ≤ 1000) :
    f50_l30 cell l nl t' (n : Int) z m ((0 : Int), d) = some (d.1, (d.2.1, (d.2.2.1 ++ out, d.2.2.2))) := by
  unfold f50_l30
  refine loop_go (fun j => ((j : Int), (d.1, (d.2.1, (d.2.2.1 ++ out.take j, d.2.2.2))))) n (by simp) (fun j hj => ?_) ?_
  · unfold f50_l30_g f50_l30_k
    simp only
    rw [dlt hj]
    simp only [cond_true]
    have hjo : j < out.length := by rw [h.len]; exact hj
    rw [if_pos ⟨by rw [most_eq, List.length_append, List.length_take]; omega, by decide, by decide⟩, wj (by omega), h.rows hj, List.append_assoc, ← take_succ_getD (d := []) hjo]
  · unfold f50_l30_g f50_l30_k
    simp only
    rw [dge, ← h.len, List.take_length]; rfl
theorem tail14 {S : List Sec} (h : GS S) (cell t : Int) (l : List (List Int)) (nl t' : Int) (z d : Disk) {j : Nat} (hd : GD d j) (hj : j < 20) :
    ∃ y, f49_t14 cell t S l nl t' z d = some y ∧ f50_t14 cell t S l nl t' z d = some y ∧ ((∃ e : Int, e ≠ 0 ∧ y = .inl (e, zD)) ∨ ∃ d', y = .inr d' ∧ GD d' (j + 1)) := by
  have hlen := hd.len
  have hS := h.len
  unfold f49_t14 f49_t14_k f50_t14 f50_t14_k
  cases c1 : (((List.length S : Nat) : Int) != d.2.1) with
  | true =>
    refine ⟨.inl (13, zD), rfl, ?_, .inl ⟨13, by decide, rfl⟩⟩
    cases (((List.length S : Nat) : Int) == (0 : Int)) <;> rfl
  | false =>
    cases c2 : (((List.length S : Nat) : Int) == (0 : Int)) with
    | true => exact ⟨.inl (13, zD), rfl, rfl, .inl ⟨13, by decide, rfl⟩⟩
    | false =>
      simp only [cond_false]
      have hds : d.2.1 = ((S.length : Nat) : Int) := by
        have : ((List.length S : Nat) : Int) = d.2.1 := by simpa using c1
        exact this.symm
      rw [hds]
      obtain ⟨y, y', e1, e2, q⟩ := track_sim h t cell l nl t' z d hds
      have e108 : f108 t S ((S.length : Nat) : Int) = some (Sum.elim (fun e => (([], (e, ())), ())) (fun out => ((out, (0, ())), ())) y) := by
        unfold f108 f108_k
        rw [if_pos ⟨by omega, by omega, by rw [most_eq]; omega, by decide, by decide⟩, Int.toNat_natCast, e1]
        cases y <;> rfl
      rw [e108, e2]
      rcases q with ⟨e, he, rfl, rfl⟩ | ⟨out, m, rfl, rfl, hr⟩
      · refine ⟨.inl (e, zD), ?_, rfl, .inl ⟨e, he, rfl⟩⟩
        have : (e != 0) = true := by simpa using he
        simp only [some_bind, Sum.elim_inl, this, cond_true]
      · refine ⟨.inr (d.1, (((S.length : Nat) : Int), (d.2.2.1 ++ out, d.2.2.2))), ?_, ?_, .inr ⟨_, rfl, ?_, ?_⟩⟩
        · simp only [some_bind, Sum.elim_inr]
          rw [show ((0 : Int) != 0) = false from rfl]
          simp only [cond_false]
          rw [if_pos ⟨by rw [most_eq, hr.len]; omega, by decide, by decide⟩]
        · simp only [some_bind, Sum.elim_inr]
          rw [fill30 hr cell l nl t' z d hS (by omega), hds]
          rfl
        · show (d.2.2.1 ++ out).length ≤ 12 * (j + 1)
          rw [List.length_append, hr.len]; omega
        · intro x hx
          rcases List.mem_append.1 hx with hx | hx
          · exact hd.byt x hx
          · exact hr.byt x hx
theorem tracks_sim (l : List (List Int)) (cell : Int) (z : Disk) (hl : l.length ≤ 20) : ∃ y, f49_l7 cell l ((List.length l : Nat) : Int) z ((0 : Int), (((List.length l : Nat) : Int), ((0 : Int), ([], ())))) = some y ∧
    f50_l7 cell l ((List.length l : Nat) : Int) z ((0 : Int), (((List.length l : Nat) : Int), ((0 : Int), ([], ())))) = some y ∧
    ((∃ e : Int, y = .inl (e, zD)) ∨ ∃ d', y = .inr d' ∧ GD d' 20) := by
  have key : ∃ y y', loopO (f49_l7_g cell l ((List.length l : Nat) : Int) z) ((0 : Int), (((List.length l : Nat) : Int), ((0 : Int), ([], ())))) = some y ∧ loopO (f50_l7_g cell l ((List.length l : Nat) : Int) z) ((0 : Int), (((List.length l : Nat) : Int), ((0 : Int), ([], ())))) = some y' ∧
      (y = y' ∧ ((∃ e : Int, y = .inl (e, zD)) ∨ ∃ d', y = .inr d' ∧ GD d' 20)) := by
    refine loop_sim (fun x x' => x = x' ∧ ∃ (j : Nat) (d : Disk), x = ((j : Int), d) ∧ j ≤ l.length ∧ GD d j) (fun (y y' : f49_l7_Y) => y = y' ∧ ((∃ e : Int, y = .inl (e, zD)) ∨ ∃ d', y = .inr d' ∧ GD d' 20)) (fun x => l.length - x.1.toNat) ?_ _ _ ⟨rfl, 0, _, rfl, Nat.zero_le _, ⟨by simp, fun x hx => by cases hx⟩⟩
    rintro _ _ ⟨rfl, j, d, rfl, hj, hd⟩
    rcases Nat.lt_or_ge j l.length with hlt | hge
    · unfold f49_l7_g f49_l7_k f50_l7_g f50_l7_k
      simp only
      rw [dlt hlt]
      simp only [cond_true]
      rw [if_pos (in_row hlt), if_pos (in_row hlt), Int.toNat_natCast, scan53, scan54]
      simp only [some_bind]
      have hgs := scanR_good (l.getD j []) cell
      generalize hS : scanR (l.getD j []) cell = S at hgs
      cases c1 : (S.2.1 != 0) with
      | true => exact .inl ⟨.inl (S.2.1, zD), .inl (S.2.1, zD), rfl, rfl, rfl, .inl ⟨_, rfl⟩⟩
      | false =>
        simp only [cond_false]
        have fin : ∀ (d2 : Disk), GD d2 j → ∃ y, f49_t14 cell (j : Int) S.1 l ((List.length l : Nat) : Int) (j : Int) z d2 = some y ∧ f50_t14 cell (j : Int) S.1 l ((List.length l : Nat) : Int) (j : Int) z d2 = some y ∧ ((∃ e : Int, e ≠ 0 ∧ y = .inl (e, zD)) ∨ ∃ d', y = .inr d' ∧ GD d' (j + 1)) :=
          fun d2 h2 => tail14 hgs cell (j : Int) l _ (j : Int) z d2 h2 (by omega)
        cases c2 : ((j : Int) == (0 : Int)) with
        | true =>
          simp only [cond_true]
          obtain ⟨y, e1, e2, q⟩ := fin (d.1, (((List.length S.1 : Nat) : Int), d.2.2)) ⟨hd.len, hd.byt⟩
          rw [e1, e2]
          rcases q with ⟨e, he, rfl⟩ | ⟨d', rfl, hd'⟩
          · exact .inl ⟨.inl (e, zD), .inl (e, zD), rfl, rfl, rfl, .inl ⟨_, rfl⟩⟩
          · simp only [some_bind, Sum.elim_inr]
            rw [wj (by omega)]
            exact .inr ⟨_, _, rfl, rfl, ⟨rfl, j + 1, d', rfl, hlt, hd'⟩, by simp only [Int.toNat_natCast]; omega⟩
        | false =>
          simp only [cond_false]
          obtain ⟨y, e1, e2, q⟩ := fin d hd
          rw [e1, e2]
          rcases q with ⟨e, he, rfl⟩ | ⟨d', rfl, hd'⟩
          · exact .inl ⟨.inl (e, zD), .inl (e, zD), rfl, rfl, rfl, .inl ⟨_, rfl⟩⟩
          · simp only [some_bind, Sum.elim_inr]
            rw [wj (by omega)]
            exact .inr ⟨_, _, rfl, rfl, ⟨rfl, j + 1, d', rfl, hlt, hd'⟩, by simp only [Int.toNat_natCast]; omega⟩
    · have : j = l.length := by omega
      subst this
      have hd20 : GD d 20 := ⟨by have := hd.len; omega, hd.byt⟩
      refine .inl ⟨.inr d, .inr d, ?_, ?_, rfl, .inr ⟨d, rfl, hd20⟩⟩
      · unfold f49_l7_g f49_l7_k
        simp only
        rw [dge]; rfl
      · unfold f50_l7_g f50_l7_k
        simp only
        rw [dge]; rfl
  obtain ⟨y, y', e1, e2, rfl, q⟩ := key
  exact ⟨y, e1, e2, q⟩
theorem back49 (l : List (List Int)) (cell : Int) : ∃ (d : Disk) (e : Int), f49 l cell = some ((d, (e, ())), ()) ∧ f50 l cell = some ((d, (e, ())), ()) ∧ GD d 20 := by
  have z : GD zD 20 := ⟨by simp, fun x hx => by cases hx⟩
  unfold f49 f49_k f50 f50_k
  cases c1 : (((List.length l : Nat) : Int) == (0 : Int)) with
  | true => exact ⟨_, _, rfl, rfl, z⟩
  | false =>
    simp only [cond_false]
    cases c2 : decide (((List.length l : Nat) : Int) > (20 : Int)) with
    | true => exact ⟨_, _, rfl, rfl, z⟩
    | false =>
      simp only [cond_false]
      have := of_decide_eq_false c2
      obtain ⟨y, e1, e2, q⟩ := tracks_sim l cell ((0 : Int), ((0 : Int), (([] : List (List Int)), ()))) (by omega)
      rw [e1, e2]
      rcases q with ⟨e, rfl⟩ | ⟨d', rfl, hd⟩
      · exact ⟨_, _, rfl, rfl, z⟩
      · exact ⟨_, _, rfl, rfl, hd⟩
theorem Pure.ImageBacks (x0 : den (.slc (.slc (.int .i64)))) (x1 : Int) (w0 : ∀ y0 ∈ x0, (∀ y1 ∈ y0, ((Lit.int .i64 y1).wf = true))) (s0 : List.length x0 * 24 ≤ 140737488351232 ∧ ∀ y0 ∈ x0, (List.length y0 * 8 ≤ 140737488351232 ∧ ∀ y1 ∈ y0, (True))) (w1 : (Lit.int .i64 x1).wf = true) : f8 x0 x1 = some ((true, ()), ()) := by
  obtain ⟨d, e, e1, e2, hd⟩ := back49 x0 x1
  unfold f8 f8_k
  rw [e1, e2, begun15]
  simp only [some_bind, cond_true]
  have he : (e == e) = true := by simp
  rw [he, same19 d d (by have := hd.len; omega) hd.byt hd.byt]
  simp
end Go.Proofs.Ytlgbhaigpecdoaa.V
