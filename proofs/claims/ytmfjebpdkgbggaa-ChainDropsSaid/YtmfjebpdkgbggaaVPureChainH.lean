/- Chains: the check, by both. -/
import Derived.Test.YtmfjebpdkgbggaaVPureChainG
set_option linter.unusedVariables false
set_option linter.unusedSimpArgs false
namespace Go.Proofs.Ytmfjebpdkgbggaa.V
open Go
def stP (d : Disk) (u : List Bool) (j : Nat) : Bool := !(u.getD (10 + j) false) && (tb d (10 + j) != 255)
def stM (d : Disk) (u : List Bool) : Bool := (List.range (d.2.2.1.length - 10)).any (stP d u)
theorem st_of {d : Disk} (h : GoodD d) {u : List Bool} {g : Int → Option (Int ⊕ (Unit ⊕ Unit))} (hin : ∀ j : Nat, j < d.2.2.1.length - 10 → g ((10 + j : Nat) : Int) = some (if stP d u j = true then .inr (.inl ()) else .inl ((10 + (j + 1) : Nat) : Int))) (hout : g ((d.2.2.1.length : Nat) : Int) = some (.inr (.inr ()))) :
    loopO g 10 = some (if stM d u = true then .inl () else .inr ()) := by
  have hg := h.gt
  rcases searchS (Y := Unit ⊕ Unit) (g := g) (fun j => ((10 + j : Nat) : Int)) (d.2.2.1.length - 10) (stP d u) (fun m => .inl ()) (.inr ()) (fun j hj _ => hin j hj) (fun _ => by
    rw [show 10 + (d.2.2.1.length - 10) = d.2.2.1.length by omega]; exact hout) with ⟨m, m1, m2, m3, e⟩ | ⟨m1, e⟩
  · have : stM d u = true := List.any_eq_true.2 ⟨m, List.mem_range.2 m1, m2⟩
    rw [this]; exact e
  · have : stM d u = false := by
      unfold stM
      rw [List.any_eq_false]
      intro x hx
      rw [m1 x (List.mem_range.1 hx)]; simp
    rw [this]; exact e
theorem st62 {d : Disk} (h : GoodD d) {u : List Bool} (hu : u.length = d.2.2.1.length) : f34_l15 d u 10 = some (if stM d u = true then .inl () else .inr ()) := by
  unfold f34_l15
  have hle := h.le
  refine st_of h (fun j hj => ?_) ?_
  · unfold f34_l15_g f34_l15_k stP
    rw [decide_eq_true (by omega)]
    simp only [cond_true]
    rw [if_pos ⟨by omega, by omega⟩, Int.toNat_natCast, table117 h (by omega), wj (by omega)]
    simp only [some_bind]
    cases u.getD (10 + j) false <;> cases tb d (10 + j) != 255 <;> rfl
  · unfold f34_l15_g f34_l15_k
    rw [dge]; rfl
theorem st116 {d : Disk} (h : GoodD d) {u : List Bool} {m : List (Int × Bool)} (hr : RelM d.2.2.1.length u m) (ls : List Lk) : f40_l53 ((List.length d.2.2.1 : Nat) : Int) ls (tabL d) m 10 = some (if stM d u = true then .inl () else .inr ()) := by
  unfold f40_l53
  have hle := h.le
  have htl := tabL_len h
  refine st_of h (fun j hj => ?_) ?_
  · unfold f40_l53_g f40_l53_k stP
    rw [decide_eq_true (by omega)]
    simp only [cond_true]
    rw [hr.2 (10 + j) (by omega), if_pos ⟨by omega, by omega⟩, Int.toNat_natCast, tabL_getD h (by omega), wj (by omega)]
    cases u.getD (10 + j) false <;> cases tb d (10 + j) != 255 <;> rfl
  · unfold f40_l53_g f40_l53_k
    rw [dge]; rfl
def noneU (d : Disk) : List Bool := List.replicate d.2.2.1.length false
def chkM (d : Disk) : Int :=
  if chkD d ≠ 0 then chkD d else if d.2.2.1.length ≤ 10 then 13 else if tabM d = true then 3 else
  match dirM d with
  | .inl e => e
  | .inr es => match chM d es (noneU d) [] with
    | .inl e => e
    | .inr r => if stM d r.1 = true then 7 else 0
theorem good_of {d : Disk} (h : chkD d = 0) (hn : ¬ d.2.2.1.length ≤ 10) (hb : ∀ x ∈ d.2.2.1, byteL x) : GoodD d := by
  obtain ⟨a1, a2, b1, b2, e, m, hr⟩ := chk_zero h
  exact ⟨by omega, by omega, hr, hb⟩
theorem ent_err {b : List Int} {s : List (List Int)} {e : Int} (h : ent b s = .inl e) : e ≠ 0 := by
  unfold ent at h
  repeat' split at h
  all_goals (cases h; try decide)
theorem dir_err {d : Disk} {e : Int} (h : dirM d = .inl e) : e ≠ 0 := by
  unfold dirM at h
  revert h
  generalize ([] : List (Nat × List Int)) = s0
  generalize List.range 32 = l
  intro h
  induction l generalizing s0 with
  | nil => cases h
  | cons a l ih =>
    rw [foldE_cons] at h
    cases hf : entF d a s0 with
    | inl s => rw [hf] at h; exact ih s h
    | inr y =>
      rw [hf] at h
      have h : y = .inl e := h
      subst h
      unfold entF at hf
      split at hf
      · rename_i he; cases hf; exact ent_err he
      · cases hf
      · cases hf
theorem ch_err {d : Disk} (h : GoodD d) {e : Int} : ∀ (es : List (Nat × List Int)) (u : List Bool) (acc : List Lk), u.length = d.2.2.1.length → chM d es u acc = .inl e → e ≠ 0
  | [], _, _, _, hc => by cases hc
  | p :: es, u, acc, hu, hc => by
    unfold chM at hc
    cases hf : folM d (slotL d p.1) u with
    | inl e' => rw [hf] at hc; cases hc; exact folM_err h hu hf
    | inr r =>
      rw [hf] at hc
      exact ch_err h es r.1 _ (by rw [folM_len hf]; exact hu) hc
theorem ch_len {d : Disk} : ∀ (es : List (Nat × List Int)) (u : List Bool) (acc : List Lk) {r : List Bool × List Lk}, chM d es u acc = .inr r → r.1.length = u.length
  | [], u, acc, r, hc => by cases hc; rfl
  | p :: es, u, acc, r, hc => by
    unfold chM at hc
    cases hf : folM d (slotL d p.1) u with
    | inl e' => rw [hf] at hc; cases hc
    | inr q =>
      rw [hf] at hc
      have := ch_len es q.1 _ hc
      rw [this, folM_len hf]
theorem dir_good {d : Disk} (h : GoodD d) {es : List (Nat × List Int)} (hd : dirM d = .inr es) : EsOk d es ∧ es.map (·.1) = (List.range 32).filter (fun i => decide ((slotL d i).getD 0 0 ≠ 0)) :=
  ⟨dir_ok h (List.range 32) [] es (fun i hi => List.mem_range.1 hi) (fun p hp => by simp at hp) hd, by have := dir_ids (List.range 32) [] es hd; simpa using this⟩
theorem es_len {d : Disk} (h : GoodD d) {es : List (Nat × List Int)} (hd : dirM d = .inr es) : es.length ≤ 32 := by
  have := congrArg List.length (dir_good h hd).2
  rw [List.length_map] at this
  have h2 := List.length_filter_le (fun i => decide ((slotL d i).getD 0 0 ≠ 0)) (List.range 32)
  rw [List.length_range] at h2
  omega
theorem check62 (d : Disk) (hb : ∀ x ∈ d.2.2.1, byteL x) (hl : d.2.2.1.length ≤ 140737488355328) : f34 d = some ((chkM d, ()), ()) := by
  unfold f34 f34_k f68 f68_k chkM
  rw [check16 d hl]
  simp only [some_bind]
  by_cases c0 : chkD d = 0
  · have e0 : (chkD d != 0) = false := by simpa using c0
    rw [e0, if_neg (show ¬ (chkD d ≠ 0) from fun hh => hh c0)]
    simp only [cond_false]
    by_cases c1 : d.2.2.1.length ≤ 10
    · rw [decide_eq_true (by omega), if_pos c1]; rfl
    · rw [decide_eq_false (by omega), if_neg c1]
      have h := good_of c0 c1 hb
      simp only [cond_false]
      rw [tab118 h]
      cases ht : tabM d with
      | true => rfl
      | false =>
        simp only [Bool.false_eq_true, if_false, some_bind, Sum.elim_inr]
        rw [dir118 h]
        simp only [some_bind]
        cases hd : dirM d with
        | inl e =>
          have : (e != 0) = true := by simpa using dir_err hd
          simp only [Sum.elim_inl, some_bind]
          rw [this]; rfl
        | inr es =>
          have hz : ((0 : Int) != 0) = false := rfl
          simp only [Sum.elim_inr, some_bind]
          rw [hz]
          simp only [cond_false]
          have hle := h.le
          rw [if_pos ⟨by omega, Int.le_refl _, by rw [most_eq]; omega, by decide, by decide⟩, Int.toNat_natCast]
          have hu : (noneU d).length = d.2.2.1.length := List.length_replicate
          have ha := all62 h hu
          unfold noneU at ha hu ⊢
          rw [ha]
          have hf := fold_ch (d := d) (List.range 32) es (List.replicate d.2.2.1.length false) [] (dir_good h hd).2
          rw [hf]
          cases hc : chM d es (List.replicate d.2.2.1.length false) [] with
          | inl e => rfl
          | inr r =>
            simp only [some_bind, Sum.elim_inr]
            rw [st62 h (by rw [ch_len _ _ _ hc, List.length_replicate])]
            cases stM d r.1 <;> rfl
  · have e0 : (chkD d != 0) = true := by simpa using c0
    rw [e0, if_pos (show chkD d ≠ 0 from c0)]
    simp only [cond_true, some_bind]
    rw [e0]; rfl
theorem chains116 (d : Disk) (hb : ∀ x ∈ d.2.2.1, byteL x) (hl : d.2.2.1.length ≤ 140737488355328) (w1 : d.1 ≤ 9223372036854775807) :
    ∃ r, f40 d = some r ∧ r.1.2.2.1 = chkM d ∧ (chkM d = 0 → GoodD d ∧ tabM d = false ∧ ∃ es q, dirM d = .inr es ∧ chM d es (noneU d) [] = .inr q ∧ r.1.1 = q.2 ∧ r.1.2.1 = tabL d) := by
  unfold f40 f40_k chkM
  rw [check17 d hl w1]
  simp only [some_bind]
  by_cases c0 : chkD d = 0
  · have e0 : (chkD d != 0) = false := by simpa using c0
    rw [e0, if_neg (show ¬ (chkD d ≠ 0) from fun hh => hh c0)]
    simp only [cond_false]
    by_cases c1 : d.2.2.1.length ≤ 10
    · rw [decide_eq_true (by omega), if_pos c1]; exact ⟨_, rfl, rfl, fun h => by cases h⟩
    · rw [decide_eq_false (by omega), if_neg c1]
      have h := good_of c0 c1 hb
      have hle := h.le
      have htl := tabL_len h
      have hal := allL_len h
      simp only [cond_false]
      rw [if_pos ⟨by omega, by omega⟩, if_pos ⟨by omega, by omega⟩, concat102 [d.2.2.1.getD 0 [], d.2.2.1.getD 1 []] (by have : (tabL d).length = 256 := htl; unfold tabL at this; omega) (by simp), concat102 (List.take 8 (List.drop 2 d.2.2.1)) (by have : (allL d).length = 1024 := hal; unfold allL at this; omega) (by rw [all_cnt h]; omega)]
      simp only [some_bind]
      have et : [d.2.2.1.getD 0 [], d.2.2.1.getD 1 []].flatten = tabL d := rfl
      have ea : (List.take 8 (List.drop 2 d.2.2.1)).flatten = allL d := rfl
      have h10 : (0 : Int) ≤ 2 ∧ (2 : Int) ≤ 10 ∧ (10 : Int) ≤ ((List.length d.2.2.1 : Nat) : Int) := ⟨by omega, by omega, by omega⟩
      rw [et, ea, tab116 h d, if_pos h10]
      cases ht : tabM d with
      | true => exact ⟨_, rfl, rfl, fun h => by cases h⟩
      | false =>
        simp only [Bool.false_eq_true, if_false, some_bind, Sum.elim_inr]
        rw [dir116 h]
        simp only [some_bind]
        cases hd : dirM d with
        | inl e =>
          exact ⟨_, rfl, rfl, fun h => absurd h (dir_err hd)⟩
        | inr es =>
          simp only [Sum.elim_inr]
          have hu : (noneU d).length = d.2.2.1.length := List.length_replicate
          have hrel : RelM d.2.2.1.length (noneU d) [] := ⟨hu, fun i hi => by
            unfold noneU
            rw [List.getD_eq_getElem?_getD, List.getElem?_replicate, if_pos hi]; rfl⟩
          obtain ⟨y, y1, y2⟩ := all116 h es.length es [] (noneU d) [] (by simp) (es_len h hd) (dir_good h hd).1 hrel
          have hl2 : ((List.length (es.map (lk d)) : Nat) : Int) = ((es.length : Nat) : Int) := by rw [List.length_map]
          rw [hl2]
          have y1 : f40_l36 ((List.length d.2.2.1 : Nat) : Int) (allL d) ((es.length : Nat) : Int) (tabL d) ((0 : Int), es.map (lk d), ([] : List (Int × Bool))) = some y := y1
          rw [y1]
          simp only [some_bind]
          revert y2
          cases hc : chM d es (noneU d) [] with
          | inl e =>
            intro y2
            have y2 : y = .inl e := y2
            subst y2
            exact ⟨_, rfl, rfl, fun h0 => absurd h0 (ch_err h es (noneU d) [] hu hc)⟩
          | inr q =>
            rintro ⟨m', z1, z2⟩
            subst z1
            simp only [Sum.elim_inr]
            rw [st116 h z2]
            cases hs : stM d q.1 with
            | true => exact ⟨_, rfl, rfl, fun h0 => by cases h0⟩
            | false => exact ⟨_, rfl, rfl, fun _ => ⟨h, trivial, es, q, rfl, hc, rfl, rfl⟩⟩
  · have e0 : (chkD d != 0) = true := by simpa using c0
    rw [e0, if_pos (show chkD d ≠ 0 from c0)]
    exact ⟨_, rfl, rfl, fun h => absurd h c0⟩
end Go.Proofs.Ytmfjebpdkgbggaa.V
