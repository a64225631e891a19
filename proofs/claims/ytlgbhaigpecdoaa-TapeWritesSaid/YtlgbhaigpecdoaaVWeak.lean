/- A state of which less is told. -/
import Derived.Test.YtlgbhaigpecdoaaVSkel
import Derived.Test.YtlgbhaigpecdoaaVDrawC
set_option linter.unusedVariables false
set_option linter.unusedSimpArgs false
namespace Go.Proofs.Ytlgbhaigpecdoaa.V
open Go

section
variable {G : Gl} {I0 : Nat → Prop} {st st2 : St} {vs : Array Value} {w : World} {Im : Nat → Prop} {R : Real} {hand : Frag} {a : Act}
theorem one_len {x : SV} {cs : List Value} (h : one x = true) (hx : SVX w Im R x false cs) : cs.length = 1 := by
  cases x with
  | undef => exact hx
  | con t y =>
    have := Rep.len hx
    cases t <;> simp [one, aggTy] at h <;> exact this
  | raw v =>
    have hx : cs = v.cells.toList := hx
    rw [isNilV_ok h] at hx; rw [hx]; rfl
  | emp => obtain ⟨A, e⟩ := hx; rw [e]; rfl
  | ref r q => obtain ⟨v, e, _⟩ := hx; rw [e]; rfl
  | sub r q lo n => obtain ⟨v, e, _⟩ := hx; rw [e]; rfl
  | ptr r q => obtain ⟨v, e, _⟩ := hx; rw [e]; rfl
  | pro t y => obtain ⟨_, _, _, _, _, e, _⟩ := hx; rw [e]; rfl
  | fn f c => obtain ⟨v, e, _⟩ := hx; rw [e]; rfl
  | _ => simp [one] at h
theorem less_leaf_eq {k : Nat} {a x : SV} (ha : leaf a = true) (h : less k a x) : a = x := by
  match k with
  | 0 => cases a <;> simp [leaf] at ha <;> cases x <;> simp [less] at h <;> (try exact h) <;> simp_all
  | 1 => cases a <;> simp [leaf] at ha <;> cases x <;> simp [less] at h <;> (try exact h) <;> simp_all
  | k + 2 => cases a <;> simp [leaf] at ha <;> cases x <;> simp [less] at h <;> (try exact h) <;> simp_all
theorem less_ok : ∀ (a : SV), (∀ {x : SV} {cs : List Value}, less 1 a x → SVX w Im R x false cs → SVX w Im R a false cs) ∧ (∀ {x : SV} {us : List Value}, less 2 a x → SVX w Im R x true us → SVX w Im R a true us) ∧
    (∀ {x : SV} {v : Value}, less 0 a x → (x = .undef ∨ ∃ cs, (if isAgg x = true then v = .agg cs.toArray else cs = [v]) ∧ SVX w Im R x false cs) → (a = .undef ∨ ∃ cs, (if isAgg a = true then v = .agg cs.toArray else cs = [v]) ∧ SVX w Im R a false cs)) := by
  have lf : ∀ (a : SV), leaf a = true → (∀ {x : SV} {cs : List Value}, less 1 a x → SVX w Im R x false cs → SVX w Im R a false cs) ∧ (∀ {x : SV} {us : List Value}, less 2 a x → SVX w Im R x true us → SVX w Im R a true us) ∧
      (∀ {x : SV} {v : Value}, less 0 a x → (x = .undef ∨ ∃ cs, (if isAgg x = true then v = .agg cs.toArray else cs = [v]) ∧ SVX w Im R x false cs) → (a = .undef ∨ ∃ cs, (if isAgg a = true then v = .agg cs.toArray else cs = [v]) ∧ SVX w Im R a false cs)) := by
    intro a ha
    refine ⟨fun hl hx => ?_, fun hl hx => ?_, fun hl hx => ?_⟩
    · rw [less_leaf_eq ha hl]; exact hx
    · rw [less_leaf_eq ha hl]; exact hx
    · rw [less_leaf_eq ha hl]; exact hx
  intro a
  induction a with
  | undef =>
    refine ⟨fun hl hx => ?_, fun hl hx => ?_, fun _ _ => .inl rfl⟩
    · exact one_len (by simpa [less] using hl) hx
    · cases ‹SV› <;> simp [less] at hl
  | agg a b iha ihb =>
    refine ⟨fun {x cs} hl hx => ?_, fun {x us} hl hx => ?_, fun {x v} hl hx => ?_⟩
    · cases x <;> simp [less] at hl
      obtain ⟨c1, c2, e, h1, h2⟩ := hx
      exact ⟨c1, c2, e, iha.1 hl.1 h1, ihb.1 hl.2 h2⟩
    · cases x <;> simp [less] at hl
      obtain ⟨c1, c2, e, h1, h2⟩ := hx
      exact ⟨c1, c2, e, iha.1 hl.1 h1, ihb.1 hl.2 h2⟩
    · cases x <;> simp [less] at hl
      rcases hx with hx | ⟨cs, e, c1, c2, e2, h1, h2⟩
      · cases hx
      · exact .inr ⟨cs, e, c1, c2, e2, iha.1 hl.1 h1, ihb.1 hl.2 h2⟩
  | tcons a b iha ihb =>
    refine ⟨fun {x cs} hl hx => ?_, fun {x us} hl hx => ?_, fun {x v} hl hx => ?_⟩
    · cases x <;> simp [less] at hl
      obtain ⟨e, _⟩ := hx; cases e
    · cases x <;> simp [less] at hl
      obtain ⟨e, v, vs', e2, h1, h2⟩ := hx
      exact ⟨e, v, vs', e2, iha.2.2 hl.1 h1, ihb.2.1 hl.2 h2⟩
    · cases x <;> simp [less] at hl
      rcases hx with hx | ⟨cs, e, e0, _⟩
      · cases hx
      · cases e0
  | fn f c ih =>
    refine ⟨fun {x cs} hl hx => ?_, fun {x us} hl hx => ?_, fun {x v} hl hx => ?_⟩
    · cases x <;> simp [less] at hl
      obtain ⟨caps, e, h⟩ := hx
      exact ⟨caps, by rw [hl.1]; exact e, ih.2.1 hl.2 h⟩
    · cases x <;> simp [less] at hl
      obtain ⟨caps, e, h⟩ := hx
      exact ⟨caps, by rw [hl.1]; exact e, ih.2.1 hl.2 h⟩
    · cases x <;> simp [less] at hl
      rcases hx with hx | ⟨cs, e, caps, e2, h⟩
      · cases hx
      · exact .inr ⟨cs, e, caps, by rw [hl.1]; exact e2, ih.2.1 hl.2 h⟩
  | con t x => exact lf _ rfl
  | raw v => exact lf _ rfl
  | emp => exact lf _ rfl
  | tnil => exact lf _ rfl
  | ref r q => exact lf _ rfl
  | sub r q lo n => exact lf _ rfl
  | ptr r q => exact lf _ rfl
  | pro t x => exact lf _ rfl
theorem SVV.less {a x : SV} {v : Value} (hl : less 0 a x) (h : SVV w Im R x v) : SVV w Im R a v := by
  rcases h with h | ⟨us, e, h, h2⟩ | h
  · rcases (less_ok (w := w) (Im := Im) (R := R) a).2.2 (v := v) hl (.inl h) with h | h
    · exact .inl h
    · exact .inr (.inr h)
  · rcases h2 with h2 | ⟨p, q, h2⟩
    · subst h2
      cases a <;> simp [V.less] at hl
      · exact .inl rfl
      · exact .inr (.inl ⟨us, e, h, .inl rfl⟩)
    · subst h2
      cases a <;> simp [V.less] at hl
      · exact .inl rfl
      · obtain ⟨e0, u, us', e2, h3, h4⟩ := h
        exact .inr (.inl ⟨us, e, ⟨e0, u, us', e2, (less_ok _).2.2 hl.1 h3, (less_ok _).2.1 hl.2 h4⟩, .inr ⟨_, _, rfl⟩⟩)
  · rcases (less_ok (w := w) (Im := Im) (R := R) a).2.2 (v := v) hl (.inr h) with h | h
    · exact .inl h
    · exact .inr (.inr h)
theorem Inv.weaken (h : Inv G st vs w Im R hand) (hl : st2.slots.length = st.slots.length) (hs : ∀ n, V.less 0 (sget st2.slots n) (sget st.slots n)) (hb : ∀ j b, bget st2.boxes j = some b → bget st.boxes j = some b) : ∃ R2, Inv G st2 vs w Im R2 hand := by
  have hR : ∀ j, (match bget st2.boxes j with | some _ => R j | none => none) = R j ∨ (match bget st2.boxes j with | some _ => R j | none => none) = none := fun j => by
    cases bget st2.boxes j
    · exact .inr rfl
    · exact .inl rfl
  refine ⟨fun j => match bget st2.boxes j with | some _ => R j | none => none, ?_⟩
  have hsv := h.sv (Grow.refl w Im) (R' := fun j => match bget st2.boxes j with | some _ => R j | none => none) (p := fun _ _ _ => false) (fun r => by
    rcases hR r with e | e
    · exact .inl ⟨e, fun _ _ _ _ _ => rfl⟩
    · refine .inr ⟨fun q v _ _ b rb hb => ?_, fun q lo n v _ hh => ?_, fun q v _ _ b rb hb => ?_⟩
      · rw [show (fun j => match bget st2.boxes j with | some _ => R j | none => none) r = none from e] at hb; cases hb
      · obtain ⟨u, _, _⟩ := hh
        refine ⟨u, fun b rb hb => ?_, fun b rb hb => ?_⟩
        · rw [show (fun j => match bget st2.boxes j with | some _ => R j | none => none) r = none from e] at hb; cases hb
        · rw [show (fun j => match bget st2.boxes j with | some _ => R j | none => none) r = none from e] at hb; cases hb
      · rw [show (fun j => match bget st2.boxes j with | some _ => R j | none => none) r = none from e] at hb; cases hb)
  have hown : ∀ j, own (fun j => match bget st2.boxes j with | some _ => R j | none => none) hand j = own R hand j ∨ own (fun j => match bget st2.boxes j with | some _ => R j | none => none) hand j = [] := by
    intro j
    cases j with
    | zero => exact .inl rfl
    | succ j =>
      rcases hR j with e | e
      · left; simp only [own]; rw [e]
      · right; simp only [own]; rw [e]
  refine ⟨fun j => ?_, fun j b' r' hb' => ?_, h.sep.redis (fun j => ?_) (fun j l hjl k h1 h2 => ?_) (fun j p hp => ?_), fun n => ?_, hl.trans h.len, h.keep⟩
  · cases hj : bget st2.boxes j with
    | none => rfl
    | some b =>
      have := h.box j
      rw [hb j b hj] at this
      exact this
  · rcases hR j with e | e
    · exact h.rep j b' r' (e ▸ hb')
    · rw [e] at hb'; cases hb'
  · rcases hown j with e | e <;> rw [e]
    · exact h.sep.nod j
    · exact List.nodup_nil
  · rcases hown j with e | e <;> rw [e] at h1
    · rcases hown l with e2 | e2 <;> rw [e2] at h2
      · exact h.sep.sep j l hjl k h1 h2
      · simp [keys] at h2
    · simp [keys] at h1
  · rcases hown j with e | e <;> rw [e] at hp
    · exact ⟨j, hp⟩
    · simp at hp
  · have := hsv.2 (h.slots n)
    rw [forget_none] at this
    exact SVV.less (hs n) this
theorem Ok.take {T : Type} {r : T} {s : SkS} {K : s.T → Option T} (h : Ok G I0 st a w) (hk : s.take st K = some r) : ∃ x, K x = some r ∧ Ok G I0 (s.fill x) a w := by
  obtain ⟨x, hk, l1, l2⟩ := slotsTake_some hk
  obtain ⟨y, hk, l3⟩ := boxesTake_some hk
  obtain ⟨hd, Im, R, hI, h⟩ := h
  obtain ⟨R2, h2⟩ := h.weaken (st2 := s.fill (x, y)) l1 l2 l3
  exact ⟨(x, y), hk, hd, Im, R2, hI, h2⟩
end
end Go.Proofs.Ytlgbhaigpecdoaa.V
