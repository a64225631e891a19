/- Chains: the sectors of a file, followed by both. -/
import Derived.Test.YtmfjebpdkgbggaaVPureChainE
set_option linter.unusedVariables false
set_option linter.unusedSimpArgs false
namespace Go.Proofs.Ytmfjebpdkgbggaa.V
open Go
theorem mfind_mset (m : List (Int × Bool)) (a b : Int) (v : Bool) : mfind (.int .i64) .bool (mset (.int .i64) .bool m a v) b = if b = a then some v else mfind (.int .i64) .bool m b := by
  induction m with
  | nil => simp [mset, mfind, keq]
  | cons p m ih =>
    simp only [mset]
    by_cases h : keq (.int .i64) a p.1 = true
    · rw [if_pos h]
      have h' : a = p.1 := by simpa [keq] using h
      simp only [mfind, keq]
      by_cases hb : b = a
      · subst hb; simp [h']
      · have : ¬ b = p.1 := by rw [← h']; exact hb
        simp [hb, this]
    · rw [if_neg h]
      have h' : ¬ a = p.1 := by simpa [keq] using h
      simp only [mfind, keq]
      rw [ih]
      by_cases hb : b = p.1
      · have : ¬ b = a := by rw [hb]; exact fun e => h' e.symm
        simp [hb, this]
        intro e; exact absurd e.symm h'
      · simp [hb]
def cntF (u : List Bool) : Nat := u.countP (fun b => !b)
theorem cntF_set : ∀ {u : List Bool} {i : Nat}, i < u.length → u.getD i false = false → cntF (u.set i true) + 1 = cntF u
  | [], i, h, _ => by simp at h
  | b :: u, 0, _, h => by
    have hb : b = false := h
    subst hb
    simp [cntF]
  | b :: u, i + 1, h, hg => by
    have ih := cntF_set (u := u) (i := i) (by simpa using h) hg
    cases b <;> simp [cntF] at ih ⊢ <;> omega
def walkM (d : Disk) : Nat → Int → List Bool → List Int → (Int × List Bool) ⊕ (List Bool × List Int)
  | 0, _, u, _ => .inl (0, u)
  | k + 1, c, u, out => if c = 254 then .inr (u, out) else if c < 10 then .inl (3, u) else if c ≥ (d.2.2.1.length : Int) then .inl (3, u) else if tb d c.toNat = 255 then .inl (3, u)
    else if u.getD c.toNat false = true then .inl (10, u) else walkM d k (tb d c.toNat) (u.set c.toNat true) (out ++ [c])
theorem walk120 {d : Disk} (h : GoodD d) (sz : Int) : ∀ (k : Nat) (c : Int) (u : List Bool) (out : List Int), cntF u < k → u.length = d.2.2.1.length → 0 ≤ c ∧ c < 256 → out.length + cntF u ≤ 1000 → f37_l4 sz d (c, u, out) = some (walkM d k c u out) := by
  intro k
  induction k with
  | zero => intro c u out hk; omega
  | succ k ih =>
    intro c u out hk hl hc ho
    have hle := h.le
    unfold walkM f37_l4
    by_cases c1 : c = 254
    · subst c1
      rw [if_pos rfl]; exact loopO_out (by unfold f37_l4_g f37_l4_k; rfl)
    · rw [if_neg c1]
      have e1 : (c != 254) = true := by simpa using c1
      by_cases c2 : c < 10
      · rw [if_pos c2]; exact loopO_out (by unfold f37_l4_g f37_l4_k; rw [e1, decide_eq_true c2]; rfl)
      · rw [if_neg c2]
        by_cases c3 : c ≥ (d.2.2.1.length : Int)
        · rw [if_pos c3]; exact loopO_out (by unfold f37_l4_g f37_l4_k; rw [e1, decide_eq_false c2, decide_eq_true c3]; rfl)
        · rw [if_neg c3]
          obtain ⟨i, rfl⟩ : ∃ i : Nat, c = (i : Int) := ⟨c.toNat, by omega⟩
          rw [Int.toNat_natCast]
          have ht := table117 h (i := i) (by omega)
          by_cases c4 : tb d i = 255
          · rw [if_pos c4]; exact loopO_out (by
              unfold f37_l4_g f37_l4_k
              rw [e1, decide_eq_false c2, decide_eq_false c3, ht]
              simp only [cond_true, cond_false, some_bind]
              rw [c4]; rfl)
          · rw [if_neg c4]
            have e4 : (tb d i == 255) = false := by simpa using c4
            have hin : (0 : Int) ≤ (i : Int) ∧ (i : Int) < ((List.length u : Nat) : Int) := ⟨by omega, by omega⟩
            by_cases c5 : u.getD i false = true
            · rw [if_pos c5]; exact loopO_out (by
                unfold f37_l4_g f37_l4_k
                rw [e1, decide_eq_false c2, decide_eq_false c3, ht]
                simp only [cond_true, cond_false, some_bind]
                rw [e4]
                simp only [cond_false]
                rw [if_pos hin, Int.toNat_natCast, c5]; rfl)
            · rw [if_neg c5]
              have c5' : u.getD i false = false := by simpa using c5
              have hcs := cntF_set (u := u) (i := i) (by omega) c5'
              have hnext : f37_l4_g sz d ((i : Int), u, out) = some (.inl (tb d i, u.set i true, out ++ [(i : Int)])) := by
                unfold f37_l4_g f37_l4_k
                rw [e1, decide_eq_false c2, decide_eq_false c3, ht]
                simp only [cond_true, cond_false, some_bind]
                rw [e4]
                simp only [cond_false]
                rw [if_pos hin, Int.toNat_natCast, c5', if_pos ⟨by rw [most_eq]; omega, by decide, by decide⟩, if_pos hin]
                rfl
              rw [loopO_next hnext]
              exact ih _ _ _ (by omega) (by rw [List.length_set]; exact hl) (tb_byte h (by omega)) (by rw [List.length_append, List.length_singleton]; omega)
def RelM (n : Nat) (u : List Bool) (m : List (Int × Bool)) : Prop := u.length = n ∧ ∀ i : Nat, i < n → (mfind (.int .i64) .bool m (i : Int)).getD false = u.getD i false
theorem RelM.set {n : Nat} {u : List Bool} {m : List (Int × Bool)} (h : RelM n u m) {i : Nat} (hi : i < n) : RelM n (u.set i true) (mset (.int .i64) .bool m (i : Int) true) := by
  refine ⟨by rw [List.length_set]; exact h.1, fun j hj => ?_⟩
  rw [mfind_mset, List.getD_eq_getElem?_getD, List.getElem?_set]
  by_cases e : j = i
  · subst e
    rw [if_pos rfl, if_pos rfl, if_pos (by have := h.1; omega)]
  · rw [if_neg (by omega), if_neg (fun h => e h.symm), ← List.getD_eq_getElem?_getD]
    exact h.2 j hj
def secOf (p : Lk) (out : List Int) : Lk := (p.1, (p.2.1, (p.2.2.1, (out, ()))))
theorem walk116 {d : Disk} (h : GoodD d) (all : List Int) (L : Int) (acc rest : List Lk) (p : Lk) : ∀ (k : Nat) (c : Int) (u : List Bool) (out : List Int) (m : List (Int × Bool)), cntF u < k → RelM d.2.2.1.length u m → 0 ≤ c ∧ c < 256 → out.length + cntF u ≤ 1000 →
    ∃ y, f40_l39 ((List.length d.2.2.1 : Nat) : Int) all (acc.length : Int) L (acc.length : Int) (tabL d) (c, acc ++ secOf p out :: rest, m) = some y ∧
      match walkM d k c u out with
      | .inl e => y = .inl e.1
      | .inr r => ∃ m', y = .inr (acc ++ secOf p r.2 :: rest, m') ∧ RelM d.2.2.1.length r.1 m' ∧ cntF r.1 + r.2.length = cntF u + out.length := by
  intro k
  induction k with
  | zero => intro c u out m hk; omega
  | succ k ih =>
    intro c u out m hk hr hc ho
    have hle := h.le
    have htl := tabL_len h
    unfold walkM f40_l39
    by_cases c1 : c = 254
    · subst c1
      rw [if_pos rfl]
      exact ⟨_, loopO_out (by unfold f40_l39_g f40_l39_k; rfl), m, rfl, hr, rfl⟩
    · rw [if_neg c1]
      have e1 : (c != 254) = true := by simpa using c1
      have ew : IntKind.i64.wrap c = c := wi (by omega) (by omega)
      by_cases c2 : c < 10
      · rw [if_pos c2]
        exact ⟨_, loopO_out (by unfold f40_l39_g f40_l39_k; simp only; rw [e1, ew, decide_eq_true c2]; rfl), rfl⟩
      · rw [if_neg c2]
        by_cases c3 : c ≥ (d.2.2.1.length : Int)
        · rw [if_pos c3]
          exact ⟨_, loopO_out (by unfold f40_l39_g f40_l39_k; simp only; rw [e1, ew, decide_eq_false c2, decide_eq_true c3]; rfl), rfl⟩
        · rw [if_neg c3]
          obtain ⟨i, rfl⟩ : ∃ i : Nat, c = (i : Int) := ⟨c.toNat, by omega⟩
          rw [Int.toNat_natCast]
          have htab := tabL_getD h (i := i) (by omega)
          have hin : (0 : Int) ≤ (i : Int) ∧ (i : Int) < ((List.length (tabL d) : Nat) : Int) := ⟨by omega, by omega⟩
          by_cases c4 : tb d i = 255
          · rw [if_pos c4]
            exact ⟨_, loopO_out (by
              unfold f40_l39_g f40_l39_k
              simp only
              rw [e1, ew, decide_eq_false c2, decide_eq_false c3, if_pos hin, Int.toNat_natCast, htab, c4]; rfl), rfl⟩
          · rw [if_neg c4]
            have e4 : (tb d i == 255) = false := by simpa using c4
            have hm := hr.2 i (by omega)
            by_cases c5 : u.getD i false = true
            · rw [if_pos c5]
              exact ⟨_, loopO_out (by
                unfold f40_l39_g f40_l39_k
                simp only
                rw [e1, ew, decide_eq_false c2, decide_eq_false c3, if_pos hin, Int.toNat_natCast, htab, e4, hm, c5]; rfl), rfl⟩
            · rw [if_neg c5]
              have c5' : u.getD i false = false := by simpa using c5
              have hcs := cntF_set (u := u) (i := i) (by rw [hr.1]; omega) c5'
              have hg : (acc ++ secOf p out :: rest).getD acc.length ((0 : Int), (ByteArray.empty, ((0 : Int), (([] : List Int), ())))) = secOf p out := by
                rw [List.getD_eq_getElem?_getD, List.getElem?_append_right (Nat.le_refl _), Nat.sub_self]; rfl
              have hs : ∀ q, (acc ++ secOf p out :: rest).set acc.length q = acc ++ q :: rest := fun q => by
                rw [List.set_append_right _ _ (Nat.le_refl _), Nat.sub_self]; rfl
              have hk2 : (0 : Int) ≤ (acc.length : Int) ∧ (acc.length : Int) < ((List.length (acc ++ secOf p out :: rest) : Nat) : Int) := ⟨by omega, by rw [List.length_append, List.length_cons]; omega⟩
              have hnext : f40_l39_g ((List.length d.2.2.1 : Nat) : Int) all (acc.length : Int) L (acc.length : Int) (tabL d) ((i : Int), acc ++ secOf p out :: rest, m) = some (.inl (tb d i, acc ++ secOf p (out ++ [(i : Int)]) :: rest, mset (.int .i64) .bool m (i : Int) true)) := by
                unfold f40_l39_g f40_l39_k
                simp only
                rw [e1, ew, decide_eq_false c2, decide_eq_false c3, if_pos hin, Int.toNat_natCast, htab, e4, hm, c5', Int.toNat_natCast, hg]
                simp only [cond_true, cond_false, hs]
                rw [if_pos hk2, if_pos hk2, if_pos trivial, if_pos ⟨by decide, by rw [most_eq]; show (List.length out + 1) * 8 ≤ _; omega, by decide⟩, if_pos hin]
                rfl
              rw [loopO_next hnext]
              obtain ⟨y, y1, y2⟩ := ih (tb d i) (u.set i true) (out ++ [(i : Int)]) _ (by omega) (hr.set (by omega)) (tb_byte h (by omega)) (by rw [List.length_append, List.length_singleton]; omega)
              refine ⟨y, y1, ?_⟩
              revert y2
              cases walkM d k (tb d i) (u.set i true) (out ++ [(i : Int)]) with
              | inl e => exact fun hh => hh
              | inr r =>
                rintro ⟨m', z1, z2, z3⟩
                exact ⟨m', z1, z2, by rw [List.length_append, List.length_singleton] at z3; omega⟩
end Go.Proofs.Ytmfjebpdkgbggaa.V
