/- Chains: all files, what is left, and the room. -/
import Derived.Test.YtmfjebpdkgbggaaVPureChainF
set_option linter.unusedVariables false
set_option linter.unusedSimpArgs false
namespace Go.Proofs.Ytmfjebpdkgbggaa.V
open Go
theorem walkM_err {d : Disk} : ∀ (k : Nat) (c : Int) (u : List Bool) (out : List Int) {e : Int × List Bool}, cntF u < k → u.length = d.2.2.1.length → walkM d k c u out = .inl e → e.1 = 3 ∨ e.1 = 10 := by
  intro k
  induction k with
  | zero => intro c u out e hk; omega
  | succ k ih =>
    intro c u out e hk hl hw
    unfold walkM at hw
    split at hw
    · cases hw
    · split at hw
      · cases hw; exact .inl rfl
      · split at hw
        · cases hw; exact .inl rfl
        · split at hw
          · cases hw; exact .inl rfl
          · split at hw
            · cases hw; exact .inr rfl
            · rename_i c1 c2 c3 c4 c5
              have hcs := cntF_set (u := u) (i := c.toNat) (by omega) (by simpa using c5)
              exact ih _ _ _ (by omega) (by rw [List.length_set]; exact hl) hw
theorem walkM_len {d : Disk} : ∀ (k : Nat) (c : Int) (u : List Bool) (out : List Int) {r : List Bool × List Int}, walkM d k c u out = .inr r → r.1.length = u.length := by
  intro k
  induction k with
  | zero => intro c u out r hw; cases hw
  | succ k ih =>
    intro c u out r hw
    unfold walkM at hw
    repeat' split at hw
    all_goals first | cases hw | skip
    · rfl
    · have := ih _ _ _ hw
      rw [List.length_set] at this; exact this
theorem cntF_le (u : List Bool) : cntF u ≤ u.length := List.countP_le_length
def need (b : List Int) : Int := Int.tdiv (sizeB b + 127) 128
theorem need_le {b : List Int} (h : byteL b) : 0 ≤ need b ∧ need b ≤ 1000 := by
  have hs := sizeB_le h
  obtain ⟨m, hm⟩ : ∃ m : Nat, sizeB b + 127 = (m : Int) := ⟨(sizeB b + 127).toNat, by omega⟩
  have : need b = ((m / 128 : Nat) : Int) := by unfold need; rw [hm]; exact (Int.ofNat_tdiv m 128).symm
  omega
def folM (d : Disk) (b : List Int) (u : List Bool) : Int ⊕ (List Bool × List Int) :=
  match walkM d 241 (b.getD 20 0) u [] with
  | .inl e => .inl e.1
  | .inr r => if (r.2.length : Int) ≠ need b then .inl 12 else .inr r
theorem folM_err {d : Disk} (h : GoodD d) {b : List Int} {u : List Bool} {e : Int} (hl : u.length = d.2.2.1.length) (hf : folM d b u = .inl e) : e ≠ 0 := by
  unfold folM at hf
  split at hf
  · rename_i e' hw
    cases hf
    have := walkM_err 241 _ _ _ (by have := cntF_le u; have := h.le; omega) hl hw
    omega
  · split at hf
    · cases hf; decide
    · cases hf
theorem folM_len {d : Disk} {b : List Int} {u : List Bool} {r : List Bool × List Int} (hf : folM d b u = .inr r) : r.1.length = u.length := by
  unfold folM at hf
  split at hf
  · cases hf
  · rename_i r' hw
    split at hf
    · cases hf
    · cases hf; exact walkM_len _ _ _ _ hw
theorem fol120 {d : Disk} (h : GoodD d) {b : List Int} (hb : byteL b) (hl : b.length = 32) {u : List Bool} (hu : u.length = d.2.2.1.length) :
    ∃ r, f37 d b u = some r ∧ (match folM d b u with | .inl e => r.1.2.1 = e | .inr q => r = ((q.2, (0, ())), (q.1, ()))) := by
  have h20 := byteL_getD hb 20
  have h21 := byteL_getD hb 21
  have h22 := byteL_getD hb 22
  have hs := sizeB_le hb
  have hn := need_le hb
  have hle := h.le
  have hcu := cntF_le u
  have hw := walk120 h (sizeB b) 241 (b.getD 20 0) u [] (by omega) hu h20 (by simp; omega)
  unfold f37 f37_k folM
  rw [wi (n := b.getD 21 0) (by omega) (by omega), wi (n := b.getD 22 0) (by omega) (by omega), wi (n := b.getD 20 0) (by omega) (by omega)]
  have e1 : IntKind.i64.wrap (b.getD 21 0 * 2 ^ (min 8 64)) = 256 * b.getD 21 0 := by
    rw [show (2 : Int) ^ (min 8 64) = 256 by decide, wi (by omega) (by omega)]; omega
  dsimp only
  rw [e1, wi (n := 256 * b.getD 21 0 + b.getD 22 0) (by omega) (by omega), if_pos ⟨by omega, by omega⟩, if_pos ⟨by omega, by omega⟩, if_pos ⟨by omega, by omega⟩]
  have e2 : 256 * b.getD 21 0 + b.getD 22 0 = sizeB b := rfl
  rw [e2, hw]
  simp only [some_bind]
  cases hq : walkM d 241 (b.getD 20 0) u [] with
  | inl e => exact ⟨_, rfl, rfl⟩
  | inr q =>
    simp only [Sum.elim_inr]
    rw [wi (n := sizeB b + 128) (by omega) (by omega), wi (n := sizeB b + 128 - 1) (by omega) (by omega)]
    have e3 : sizeB b + 128 - 1 = sizeB b + 127 := by omega
    rw [e3]
    have e4 : Int.tdiv (sizeB b + 127) 128 = need b := rfl
    rw [e4, wi (n := need b) (by omega) (by omega)]
    by_cases hc : (q.2.length : Int) = need b
    · have : ((q.2.length : Int) != need b) = false := by simpa using hc
      rw [this, if_neg (by simpa using hc)]
      exact ⟨_, rfl, rfl⟩
    · have : ((q.2.length : Int) != need b) = true := by simpa using hc
      rw [this, if_pos hc]
      exact ⟨_, rfl, rfl⟩
def stepU (d : Disk) (i : Nat) (u : List Bool) : List Bool ⊕ (Int ⊕ List Bool) :=
  if (slotL d i).getD 0 0 ≠ 0 then (match folM d (slotL d i) u with | .inl e => .inr (.inl e) | .inr r => .inl r.1) else .inl u
theorem all62 {d : Disk} (h : GoodD d) {u : List Bool} (hu : u.length = d.2.2.1.length) : f34_l6 d ((0 : Int), u) = some (foldE (stepU d) (fun u => .inr u) (List.range 32) u) := by
  unfold f34_l6
  exact loop_list (A := Nat) (S := List Bool) (g := f34_l6_g d) (Y := Int ⊕ List Bool) 0 (List.range 32) (fun j u => ((j : Int), u)) (fun j u => u.length = d.2.2.1.length) (stepU d) (fun u => .inr u) (fun j u hj hp => by
    rw [List.length_range] at hj
    rw [range_getD hj]
    have hs := slotL_len h hj
    have hb := slotL_byte h hj
    obtain ⟨r, r1, r2⟩ := fol120 h hb hs hp
    refine ⟨?_, fun u' he => ?_⟩
    · unfold f34_l6_g f34_l6_k stepU
      simp only
      rw [decide_eq_true (by omega)]
      simp only [cond_true]
      rw [slot119 h hj]
      simp only [some_bind]
      have hc : (0 : Int) ≤ 0 ∧ (0 : Int) < ((List.length (slotL d j) : Nat) : Int) := ⟨by omega, by omega⟩
      rw [if_pos hc, wj (by omega), r1]
      simp only [some_bind]
      by_cases c0 : (slotL d j).getD 0 0 = 0
      · have : ((slotL d j).getD 0 0 != 0) = false := by simpa using c0
        rw [this, if_neg (by simpa using c0)]; rfl
      · have : ((slotL d j).getD 0 0 != 0) = true := by simpa using c0
        rw [this, if_pos c0]
        simp only [cond_true]
        revert r2
        cases hf : folM d (slotL d j) u with
        | inl e =>
          intro r2
          have r2 : r.1.2.1 = e := r2
          have : (e != 0) = true := by simpa using folM_err h hp hf
          rw [r2, this]; rfl
        | inr q =>
          intro r2
          have r2 : r = ((q.2, (0, ())), (q.1, ())) := r2
          rw [r2]; rfl
    · unfold stepU at he
      split at he
      · split at he
        · cases he
        · rename_i q hf
          cases he
          rw [folM_len hf]; exact hp
      · cases he; exact hp) (fun u hp => by
    rw [List.length_range]; rfl) u hu rfl
def chM (d : Disk) : List (Nat × List Int) → List Bool → List Lk → Int ⊕ (List Bool × List Lk)
  | [], u, acc => .inr (u, acc)
  | p :: es, u, acc => match folM d (slotL d p.1) u with
    | .inl e => .inl e
    | .inr r => chM d es r.1 (acc ++ [secOf (lk d p) r.2])
theorem dir_ids {d : Disk} : ∀ (l : List Nat) (s es : List (Nat × List Int)), foldE (entF d) (fun es => (.inr es : Int ⊕ List (Nat × List Int))) l s = .inr es → es.map (·.1) = s.map (·.1) ++ l.filter (fun i => decide ((slotL d i).getD 0 0 ≠ 0))
  | [], s, es, h => by
    have h : (Sum.inr s : Int ⊕ List (Nat × List Int)) = .inr es := h
    cases h; simp
  | i :: l, s, es, h => by
    rw [foldE_cons] at h
    cases hf : entF d i s with
    | inr y =>
      rw [hf] at h
      have h : y = .inr es := h
      subst h
      unfold entF at hf
      split at hf <;> cases hf
    | inl s' =>
      rw [hf] at h
      have ih := dir_ids l s' es h
      rw [ih]
      unfold entF at hf
      split at hf
      · cases hf
      · rename_i he
        cases hf
        have : (slotL d i).getD 0 0 = 0 := by
          unfold ent at he
          split at he
          · assumption
          · repeat' split at he
            all_goals cases he
        rw [List.filter_cons, if_neg (by simpa using this)]
      · rename_i nm he
        cases hf
        have : (slotL d i).getD 0 0 ≠ 0 := by
          unfold ent at he
          split at he
          · split at he <;> cases he
          · assumption
        rw [List.filter_cons, if_pos (by simpa using this)]
        simp
theorem dir_ok {d : Disk} (h : GoodD d) : ∀ (l : List Nat) (s es : List (Nat × List Int)), (∀ i ∈ l, i < 32) → EsOk d s → foldE (entF d) (fun es => (.inr es : Int ⊕ List (Nat × List Int))) l s = .inr es → EsOk d es
  | [], s, es, _, hs, hf => by
    have hf : (Sum.inr s : Int ⊕ List (Nat × List Int)) = .inr es := hf
    cases hf; exact hs
  | i :: l, s, es, hl, hs, hf => by
    rw [foldE_cons] at hf
    cases he : entF d i s with
    | inr y =>
      rw [he] at hf
      have hf : y = .inr es := hf
      subst hf
      unfold entF at he
      split at he <;> cases he
    | inl s' =>
      rw [he] at hf
      exact dir_ok h l s' es (fun j hj => hl j (List.mem_cons_of_mem _ hj)) (entF_ok h (hl i (List.mem_cons_self ..)) hs he) hf
theorem fold_ch {d : Disk} : ∀ (l : List Nat) (es : List (Nat × List Int)) (u : List Bool) (acc : List Lk), es.map (·.1) = l.filter (fun i => decide ((slotL d i).getD 0 0 ≠ 0)) →
    foldE (stepU d) (fun u => (.inr u : Int ⊕ List Bool)) l u = match chM d es u acc with | .inl e => .inl e | .inr r => .inr r.1
  | [], es, u, acc, h => by
    have : es = [] := by simpa using h
    subst this; rfl
  | i :: l, es, u, acc, h => by
    rw [foldE_cons]
    unfold stepU
    by_cases c0 : (slotL d i).getD 0 0 = 0
    · rw [if_neg (by simpa using c0)]
      rw [List.filter_cons, if_neg (by simpa using c0)] at h
      exact fold_ch l es u acc h
    · rw [if_pos c0]
      rw [List.filter_cons, if_pos (by simpa using c0)] at h
      cases es with
      | nil => simp at h
      | cons p es =>
        simp only [List.map_cons, List.cons.injEq] at h
        obtain ⟨e1, e2⟩ := h
        unfold chM
        rw [e1]
        cases folM d (slotL d i) u with
        | inl e => rfl
        | inr r => exact fold_ch l es r.1 _ e2
theorem all116 {d : Disk} (h : GoodD d) (L : Nat) : ∀ (rest : List (Nat × List Int)) (acc : List Lk) (u : List Bool) (m : List (Int × Bool)), L = acc.length + rest.length → L ≤ 32 → EsOk d rest → RelM d.2.2.1.length u m →
    ∃ y, f40_l36 ((List.length d.2.2.1 : Nat) : Int) (allL d) ((L : Nat) : Int) (tabL d) ((acc.length : Int), acc ++ rest.map (lk d), m) = some y ∧
      match chM d rest u acc with
      | .inl e => y = .inl e
      | .inr r => ∃ m', y = .inr (r.2, m') ∧ RelM d.2.2.1.length r.1 m' := by
  intro rest
  induction rest with
  | nil =>
    intro acc u m hL h32 he hr
    have hL : L = acc.length := by simpa using hL
    refine ⟨_, loopO_out (by
      unfold f40_l36_g f40_l36_k
      simp only
      rw [← hL, dge]; rfl), m, by rw [List.map_nil, List.append_nil], hr⟩
  | cons p rest ih =>
    intro acc u m hL h32 he hr
    rw [List.length_cons] at hL
    obtain ⟨p1, p2, p3, p4⟩ := he p (List.mem_cons_self ..)
    have hb := slotL_byte h p1
    have hs := sizeB_le hb
    have hn := need_le hb
    have h20 := byteL_getD hb 20
    have hle := h.le
    have hcu := cntF_le u
    have hul := hr.1
    have hal := allL_len h
    obtain ⟨y1, y2, y3⟩ := walk116 h (allL d) ((L : Nat) : Int) acc (rest.map (lk d)) (lk d p) 241 ((slotL d p.1).getD 20 0) u [] m (by omega) hr h20 (by simp; omega)
    have hsec : secOf (lk d p) [] = lk d p := rfl
    rw [hsec] at y2
    have hg : ∀ q : Lk, (acc ++ q :: rest.map (lk d)).getD acc.length ((0 : Int), (ByteArray.empty, ((0 : Int), (([] : List Int), ())))) = q := fun q => by
      rw [List.getD_eq_getElem?_getD, List.getElem?_append_right (Nat.le_refl _), Nat.sub_self]; rfl
    have hk2 : ∀ q : Lk, (0 : Int) ≤ (acc.length : Int) ∧ (acc.length : Int) < ((List.length (acc ++ q :: rest.map (lk d)) : Nat) : Int) := fun q => ⟨by omega, by rw [List.length_append, List.length_cons]; omega⟩
    have hslot : (allL d).getD (32 * p.1 + 20) 0 = (slotL d p.1).getD 20 0 := by
      rw [← all_slot h p1, getD_take (by decide), getD_drop]
    have hstep : f40_l36_g ((List.length d.2.2.1 : Nat) : Int) (allL d) ((L : Nat) : Int) (tabL d) ((acc.length : Int), acc ++ (p :: rest).map (lk d), m) = (some y1).bind fun y44 => Sum.elim (fun z45 => some (.inr (.inl z45)))
        (fun z46 => if (0 : Int) ≤ (acc.length : Int) ∧ (acc.length : Int) < ((List.length z46.1 : Nat) : Int) then
          (cond (IntKind.i64.wrap (Int.tdiv (IntKind.i64.wrap ((z46.1.getD acc.length ((0 : Int), (ByteArray.empty, ((0 : Int), (([] : List Int), ()))))).2.2.1 + 127)) 128) != ((List.length (z46.1.getD acc.length ((0 : Int), (ByteArray.empty, ((0 : Int), (([] : List Int), ()))))).2.2.2.1 : Nat) : Int))
            (some (.inr (.inl 12))) (some (.inl (((acc.length : Int) + 1), z46.1, z46.2)))) else none) y44 := by
      rw [← y2]
      unfold f40_l36_g f40_l36_k
      simp only [List.map_cons]
      rw [dlt (by omega)]
      simp only [cond_true]
      rw [if_pos (hk2 _), Int.toNat_natCast, hg]
      have w1 : IntKind.i64.wrap (32 * (lk d p).1) = 32 * (p.1 : Int) := wi (by show _ ≤ 32 * (p.1 : Int); omega) (by show 32 * (p.1 : Int) ≤ _; omega)
      rw [w1, wi (n := 32 * (p.1 : Int) + 20) (by omega) (by omega), if_pos ⟨by omega, by rw [hal]; omega⟩]
      have w2 : (32 * (p.1 : Int) + 20).toNat = 32 * p.1 + 20 := by omega
      rw [w2, hslot]
      congr 1
      funext y44
      cases y44 with
      | inl z => rfl
      | inr z =>
        simp only [Sum.elim_inr]
        by_cases hz : (0 : Int) ≤ (acc.length : Int) ∧ (acc.length : Int) < ((List.length z.1 : Nat) : Int)
        · rw [if_pos hz, if_pos hz, if_pos hz, wi (n := (acc.length : Int) + 1) (by omega) (by omega)]
        · rw [if_neg hz, if_neg hz]
    unfold chM folM
    revert y3
    cases hw : walkM d 241 ((slotL d p.1).getD 20 0) u [] with
    | inl e =>
      intro y3
      have y3 : y1 = .inl e.1 := y3
      subst y3
      exact ⟨_, loopO_out (by rw [hstep]; rfl), rfl⟩
    | inr r =>
      rintro ⟨m', z1, z2, z3⟩
      subst z1
      have hcond : (IntKind.i64.wrap (Int.tdiv (IntKind.i64.wrap ((secOf (lk d p) r.2).2.2.1 + 127)) 128) != ((List.length (secOf (lk d p) r.2).2.2.2.1 : Nat) : Int)) = (need (slotL d p.1) != (r.2.length : Int)) := by
        have e1 : (secOf (lk d p) r.2).2.2.1 = sizeB (slotL d p.1) := rfl
        have e2 : (secOf (lk d p) r.2).2.2.2.1 = r.2 := rfl
        rw [e1, e2, wi (n := sizeB (slotL d p.1) + 127) (by omega) (by omega)]
        have e4 : Int.tdiv (sizeB (slotL d p.1) + 127) 128 = need (slotL d p.1) := rfl
        rw [e4, wi (n := need (slotL d p.1)) (by omega) (by omega)]
      simp only [some_bind, Sum.elim_inr] at hstep
      rw [if_pos (hk2 _), hg, hcond] at hstep
      by_cases hc : (r.2.length : Int) = need (slotL d p.1)
      · have hcb : (need (slotL d p.1) != (r.2.length : Int)) = false := by simpa using hc.symm
        rw [hcb] at hstep
        simp only [cond_false] at hstep
        simp only [if_neg (show ¬ ((r.2.length : Int) ≠ need (slotL d p.1)) by simpa using hc)]
        have ha : acc ++ secOf (lk d p) r.2 :: rest.map (lk d) = (acc ++ [secOf (lk d p) r.2]) ++ rest.map (lk d) := by simp
        have hlen : ((acc.length : Int) + 1) = (((acc ++ [secOf (lk d p) r.2]).length : Nat) : Int) := by rw [List.length_append, List.length_singleton]; omega
        obtain ⟨y, q1, q2⟩ := ih (acc ++ [secOf (lk d p) r.2]) r.1 m' (by rw [List.length_append, List.length_singleton]; omega) h32 (fun q hq => he q (List.mem_cons_of_mem _ hq)) z2
        refine ⟨y, ?_, q2⟩
        unfold f40_l36
        rw [loopO_next hstep, ha, hlen]
        exact q1
      · have hcb : (need (slotL d p.1) != (r.2.length : Int)) = true := by simpa using fun e => hc e.symm
        rw [hcb] at hstep
        simp only [if_pos hc]
        exact ⟨_, loopO_out (by rw [hstep]; rfl), rfl⟩
end Go.Proofs.Ytmfjebpdkgbggaa.V
