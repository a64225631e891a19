/- What a call gives. -/
import Derived.Test.YtlgbhaigpecdoaaVArgs
set_option linter.unusedVariables false
set_option linter.unusedSimpArgs false
namespace Go.Proofs.Ytlgbhaigpecdoaa.V
open Go

def ResOk (w : World) (Im : Nat → Prop) : (rs : List (Ty × Md)) → ResT rs → List Value → Frag → Prop
  | [], _, us, h => us = [] ∧ h = []
  | (t, m) :: rs, x, us, h => ∃ u us' cs h1 h2, us = u :: us' ∧ h = h1 ++ h2 ∧ pack t cs u ∧ Rep w Im t m x.1 cs h1 ∧ ResOk w Im rs x.2 us' h2
section
variable {P : Program} {G : Gl} {st : St} {vs : Array Value} {w w' : World} {Im Im' : Nat → Prop} {R R' : Real} {hand : Frag}
theorem SVX.roots : ∀ {s : SV} {b : Bool} {cs : List Value}, (∀ j ∈ V.roots s, R' j = R j) → SVX w Im R s b cs → SVX w Im R' s b cs
  | .undef, _, _, _, h => h
  | .con t x, _, _, _, h => h
  | .raw v, _, _, _, h => h
  | .emp, _, _, _, h => h
  | .agg a b, _, _, e, ⟨c1, c2, e0, h1, h2⟩ => ⟨c1, c2, e0, h1.roots fun j hj => e j (by simp [V.roots, hj]), h2.roots fun j hj => e j (by simp [V.roots, hj])⟩
  | .ref r q, _, _, e, ⟨v, e0, h⟩ => ⟨v, e0, fun b rb hb => h b rb (by rw [← e r (by simp [V.roots])]; exact hb)⟩
  | .sub r q lo n, _, _, e, ⟨v, e0, u, h1, h2⟩ => ⟨v, e0, u, fun b rb hb => h1 b rb (by rw [← e r (by simp [V.roots])]; exact hb), fun b rb hb => h2 b rb (by rw [← e r (by simp [V.roots])]; exact hb)⟩
  | .ptr r q, _, _, e, ⟨v, e0, h⟩ => ⟨v, e0, fun b rb hb => h b rb (by rw [← e r (by simp [V.roots])]; exact hb)⟩
  | .pro t x, _, _, _, h => h
  | .fn f c, _, _, e, ⟨caps, e0, h⟩ => ⟨caps, e0, h.roots fun j hj => e j (by simpa [V.roots] using hj)⟩
  | .tnil, _, _, _, h => h
  | .tcons a s, _, _, e, ⟨e0, v, vs', e1, h1, h2⟩ => ⟨e0, v, vs', e1, h1.imp id (fun ⟨cs, e2, h⟩ => ⟨cs, e2, h.roots fun j hj => e j (by simp [V.roots, hj])⟩), h2.roots fun j hj => e j (by simp [V.roots, hj])⟩
theorem got_ok {base : Nat} : ∀ {t : Ty} {m : Md} {x : den t} {k : Nat} {st : St} {R : Real} {hand h1 : Frag} {cs : List Value}, Inv G st vs w Im R (hand ++ h1) → Rep w Im t m x cs h1 →
    ∃ R', Inv G (got base t m x k st).2.2 vs w Im R' hand ∧ SVX w Im R' (got base t m x k st).1 false cs ∧ k ≤ (got base t m x k st).2.1 ∧ (∀ j ∈ V.roots (got base t m x k st).1, base + k ≤ j ∧ j < base + (got base t m x k st).2.1) ∧
      (∀ j, (j < base + k ∨ base + (got base t m x k st).2.1 ≤ j) → R' j = R j) ∧ isAgg (got base t m x k st).1 = aggTy t := by
  intro t
  induction t with
  | pair a b iha ihb =>
    intro m x k st R hand h1 cs h hr
    obtain ⟨c1, c2, g1, g2, e1, e2, r1, r2⟩ := hr
    subst e1; subst e2
    obtain ⟨R1, i1, s1, k1, q1, o1, _⟩ := iha (k := k) (st := st) (hand := hand ++ g2) (h.perm (by rw [List.append_assoc]; exact List.Perm.append_left _ List.perm_append_comm)) r1
    obtain ⟨R2, i2, s2, k2, q2, o2, _⟩ := ihb (k := (got base a m.fst x.1 k st).2.1) (st := (got base a m.fst x.1 k st).2.2) i1 r2
    refine ⟨R2, i2, ⟨c1, c2, rfl, s1.roots fun j hj => o2 j (.inl (q1 j hj).2), s2⟩, Nat.le_trans k1 k2, fun j hj => ?_, fun j hj => ?_, rfl⟩
    · have k2' : (got base a m.fst x.1 k st).2.1 ≤ (got base (.pair a b) m x k st).2.1 := k2
      rcases List.mem_append.1 hj with hj | hj
      · have := q1 j hj; omega
      · have q := q2 j hj
        have e : (got base (.pair a b) m x k st).2.1 = (got base b m.snd x.2 (got base a m.fst x.1 k st).2.1 (got base a m.fst x.1 k st).2.2).2.1 := rfl
        rw [e]; omega
    · have e : (got base (.pair a b) m x k st).2.1 = (got base b m.snd x.2 (got base a m.fst x.1 k st).2.1 (got base a m.fst x.1 k st).2.2).2.1 := rfl
      rw [e] at hj
      rw [o2 j (by omega), o1 j (by omega)]
  | slc t ih =>
    intro m x k st R hand h1 cs h hr
    cases m with
    | ro =>
      have := hr.1; subst this
      rw [List.append_nil] at h
      exact ⟨R, h, hr, Nat.le_refl _, fun j hj => by simp [got, V.roots] at hj, fun _ _ => rfl, rfl⟩
    | dead =>
      obtain ⟨⟨v, e, _⟩, e2⟩ := hr
      subst e2; subst e
      rw [List.append_nil] at h
      exact ⟨R, h, rfl, Nat.le_refl _, fun j hj => by simp [got, V.roots] at hj, fun _ _ => rfl, rfl⟩
    | pair a b => exact absurd hr (by simp [Rep])
    | own m =>
      obtain ⟨v, rfl⟩ : ∃ v, cs = [v] := by
        have := hr.len; simp [sz] at this
        match cs, this with
        | [v], _ => exact ⟨v, rfl⟩
      have hi := h.lay (base + k) (b := { mem := none, t := .slc t, m := .own m, x := x }) (rb := ⟨0, [v], h1⟩) hr rfl
      refine ⟨_, hi, ⟨v, rfl, ?_⟩, Nat.le_succ _, fun j hj => ?_, fun j hj => ?_, rfl⟩
      · intro b2 rb2 hb2
        simp only [if_true] at hb2; cases hb2
        exact ⟨trivial, ⟨t, rfl⟩, none, rfl⟩
      · simp [got, V.roots] at hj ⊢; omega
      · have : j ≠ base + k := by simp [got] at hj; omega
        simp [this]
  | _ =>
    intro m x k st R hand h1 cs h hr
    obtain ⟨e, hr2⟩ := flat_any rfl hr
    subst e
    rw [List.append_nil] at h
    exact ⟨R, h, hr2 .ro, Nat.le_refl _, fun j hj => by simp [got, V.roots] at hj, fun _ _ => rfl, rfl⟩
theorem gots_ok {base : Nat} : ∀ {rs : List (Ty × Md)} {x : ResT rs} {k : Nat} {st : St} {R : Real} {hand h1 : Frag} {us : List Value}, Inv G st vs w Im R (hand ++ h1) → ResOk w Im rs x us h1 →
    ∃ R', Inv G (gots base rs x k st).2.2 vs w Im R' hand ∧ SVX w Im R' (gots base rs x k st).1 true us ∧ k ≤ (gots base rs x k st).2.1 ∧ (∀ j, (j < base + k ∨ base + (gots base rs x k st).2.1 ≤ j) → R' j = R j) := by
  intro rs
  induction rs with
  | nil =>
    intro x k st R hand h1 us h hr
    obtain ⟨e1, e2⟩ := hr
    subst e1; subst e2
    rw [List.append_nil] at h
    exact ⟨R, h, ⟨rfl, rfl⟩, Nat.le_refl _, fun _ _ => rfl⟩
  | cons p rs ih =>
    intro x k st R hand h1 us h hr
    obtain ⟨t, m⟩ := p
    obtain ⟨u, us', cs, g1, g2, e1, e2, hp, r1, r2⟩ := hr
    subst e1; subst e2
    obtain ⟨R1, i1, s1, k1, q1, o1, ha⟩ := got_ok (base := base) (k := k) (st := st) (hand := hand ++ g2) (h.perm (by rw [List.append_assoc]; exact List.Perm.append_left _ List.perm_append_comm)) r1
    obtain ⟨R2, i2, s2, k2, o2⟩ := ih (k := (got base t m x.1 k st).2.1) (st := (got base t m x.1 k st).2.2) i1 r2
    refine ⟨R2, i2, ⟨rfl, u, us', rfl, .inr ⟨cs, ?_, s1.roots fun j hj => o2 j (.inl (q1 j hj).2)⟩, s2⟩, Nat.le_trans k1 k2, fun j hj => ?_⟩
    · rw [ha]; exact hp
    · have e : (gots base ((t, m) :: rs) x k st).2.1 = (gots base rs x.2 (got base t m x.1 k st).2.1 (got base t m x.1 k st).2.2).2.1 := rfl
      rw [e] at hj
      rw [o2 j (by omega), o1 j (by omega)]
end
end Go.Proofs.Ytlgbhaigpecdoaa.V
