/- Whole values that are looked at; conversions. -/
import Derived.Test.YtlgbhaigpecdoaaVPart
set_option linter.unusedVariables false
set_option linter.unusedSimpArgs false
namespace Go.Proofs.Ytlgbhaigpecdoaa.V
open Go

/-- What some boxes own, counted as not to be turned. -/
def With (Im : Nat → Prop) (R : Real) (l : List Nat) : Nat → Prop := fun k => Im k ∨ ∃ r b rb, r ∈ l ∧ R r = some (b, rb) ∧ k ∈ keys (fragOf b rb)
theorem With.mono {Im : Nat → Prop} {R : Real} {l l' : List Nat} (h : ∀ r ∈ l, r ∈ l') : ∀ k, With Im R l k → With Im R l' k := by
  rintro k (h1 | ⟨r, b, rb, h1, h2, h3⟩)
  · exact .inl h1
  · exact .inr ⟨r, b, rb, h r h1, h2, h3⟩
section
variable {P : Program} {G : Gl} {st : St} {vs : Array Value} {w : World} {Im : Nat → Prop} {R : Real} {hand : Frag} {T : Type} {r0 : T} {E : Env}
theorem parse_ok : ∀ (t : Ty) {l l' : List Value} {x : den t}, parse t l = some (x, l') → ∃ cs, l = cs ++ l' ∧ Rep w Im t .ro x cs [] ∧ (∀ m, Rep w Im t (fitM t m) x cs []) := by
  intro t
  induction t with
  | int k =>
    intro l l' x h
    cases l with
    | nil => simp [parse] at h
    | cons v l =>
      cases v <;> simp [parse] at h
      obtain ⟨rfl, rfl, rfl⟩ := h
      exact ⟨[_], rfl, ⟨rfl, rfl⟩, fun m => by cases m <;> exact ⟨rfl, rfl⟩⟩
  | bool =>
    intro l l' x h
    cases l with
    | nil => simp [parse] at h
    | cons v l =>
      cases v <;> simp [parse] at h
      obtain ⟨rfl, rfl⟩ := h
      exact ⟨[_], rfl, ⟨rfl, rfl⟩, fun m => by cases m <;> exact ⟨rfl, rfl⟩⟩
  | str =>
    intro l l' x h
    cases l with
    | nil => simp [parse] at h
    | cons v l =>
      cases v <;> simp [parse] at h
      obtain ⟨rfl, rfl⟩ := h
      exact ⟨[_], rfl, ⟨rfl, rfl⟩, fun m => by cases m <;> exact ⟨rfl, rfl⟩⟩
  | raw => intro l l' x h; cases l <;> simp [parse] at h
  | unit =>
    intro l l' x h
    simp [parse] at h
    obtain ⟨_, rfl⟩ := h
    exact ⟨[], rfl, ⟨rfl, rfl⟩, fun m => by cases m <;> exact ⟨rfl, rfl⟩⟩
  | pair a b iha ihb =>
    intro l l' x h
    simp only [parse] at h
    split at h
    · rename_i x1 l1 h1
      split at h
      · rename_i y l2 h2
        simp at h
        obtain ⟨rfl, rfl⟩ := h
        obtain ⟨c1, e1, r1, s1⟩ := iha h1
        obtain ⟨c2, e2, r2, s2⟩ := ihb h2
        subst e2; subst e1
        refine ⟨c1 ++ c2, by simp, ⟨c1, c2, [], [], rfl, rfl, r1, r2⟩, fun m => ?_⟩
        cases m with
        | ro => exact ⟨c1, c2, [], [], rfl, rfl, r1, r2⟩
        | _ => exact ⟨c1, c2, [], [], rfl, rfl, s1 _, s2 _⟩
      · cases h
    · cases h
  | slc t ih =>
    intro l l' x h
    cases l with
    | nil => simp [parse] at h
    | cons v l =>
      cases v with
      | slice a len cap =>
        cases a <;> cases len <;> cases cap <;> simp [parse] at h
        obtain ⟨rfl, rfl⟩ := h
        refine ⟨[_], rfl, ⟨rfl, none, 0, rfl, Nat.le_refl _, fun h => absurd rfl h⟩, fun m => ?_⟩
        cases m with
        | own m => exact .inl ⟨rfl, ⟨none, rfl⟩, rfl⟩
        | _ => exact ⟨rfl, none, 0, rfl, Nat.le_refl _, fun h => absurd rfl h⟩
      | _ => simp [parse] at h
theorem Rep.cast {t t' : Ty} (e : t = t') {m : Md} {x : den t} {cs : List Value} {h : Frag} (r : Rep w Im t m x cs h) : Rep w Im t' m (e ▸ x) cs h := by subst e; exact r
theorem Inv.grow (h : Inv G st vs w Im R hand) (l : List Nat) : Grow w w Im (With Im R l) := ⟨fun k hk => .inl hk, fun _ _ => rfl⟩
theorem look_some (h : Inv G st vs w Im R hand) : ∀ {s : SV} {t : Ty} {K : den t → Option T} {cs : List Value}, look st.boxes s t K = some r0 → SVX w Im R s false cs →
    ∃ x, K x = some r0 ∧ Rep w (With Im R (roots s)) t .ro x cs [] := by
  intro s
  induction s with
  | con t' x =>
    intro t K cs hk hs
    simp only [look] at hk
    split at hk
    · rename_i e
      subst e
      exact ⟨_, hk, Rep.grow (h.grow _) hs⟩
    · cases hk
  | raw v =>
    intro t K cs hk hs
    simp only [look] at hk
    split at hk
    · rename_i x hp
      obtain ⟨c1, e, r, _⟩ := parse_ok (w := w) (Im := With Im R (roots (.raw v))) t hp
      have hs : cs = v.cells.toList := hs
      rw [hs, e]; simp
      exact ⟨x, hk, r⟩
    · cases hk
  | emp =>
    intro t K cs hk hs
    cases t <;> simp [look] at hk
    obtain ⟨A, e⟩ := hs
    exact ⟨_, hk, rfl, A, 0, e, Nat.le_refl _, fun h => absurd rfl h⟩
  | agg a b iha ihb =>
    intro t K cs hk hs
    cases t <;> simp only [look, reduceCtorEq] at hk
    obtain ⟨c1, c2, e, h1, h2⟩ := hs
    obtain ⟨x, hk, r1⟩ := iha hk h1
    obtain ⟨y, hk, r2⟩ := ihb hk h2
    exact ⟨_, hk, c1, c2, [], [], e, rfl, r1.frame (With.mono fun r hr => by simp [roots, hr]) (fun _ _ => rfl), r2.frame (With.mono fun r hr => by simp [roots, hr]) (fun _ _ => rfl)⟩
  | ref r q =>
    intro t K cs hk hs
    simp only [look] at hk
    split at hk
    · rename_i b hb
      split at hk
      · rename_i e
        split at hk
        · rename_i hl
          obtain ⟨v, e1, hr⟩ := hs
          subst e1
          obtain ⟨h1, rb, hrr, n2, n3⟩ := h.ref hb hr
          refine ⟨_, hk, Rep.cast e ?_⟩
          refine Rep.freeze (w' := w) hl (fun k hk => .inl hk) (fun _ _ => rfl) (fun p hp => ⟨.inr ⟨r, b, rb, by simp [roots], hrr, keys_mem.2 ⟨p, fragOf_sub p (n3 p hp), rfl⟩⟩, ?_⟩) n2
          exact h.heapOK hrr p (fragOf_sub p (n3 p hp))
        · cases hk
      · cases hk
    · cases hk
  | sub r q lo n =>
    intro t K cs hk hs
    cases t with
    | slc t =>
      simp only [look] at hk
      split at hk
      · rename_i b hb
        split at hk
        · rename_i e
          split at hk
          · rename_i hl
            obtain ⟨v, e1, u, hr, hsub⟩ := hs
            subst e1
            obtain ⟨h1, rb, hrr, n2, n3⟩ := h.ref hb hr
            obtain ⟨t2, A, len, cap, A', cap', f1, f2, f3, f4, f5, f6, f7⟩ := hsub b rb hrr
            rw [e] at f1; injection f1 with f1; subst f1
            have hf : Rep w (With Im R (roots (.sub r q lo n))) (.slc t) .ro (e ▸ cget b.t b.x q) [u] [] := by
              refine Rep.cast e (Rep.freeze (w' := w) hl (fun k hk => .inl hk) (fun _ _ => rfl) (fun p hp => ⟨.inr ⟨r, b, rb, by simp [roots], hrr, keys_mem.2 ⟨p, fragOf_sub p (n3 p hp), rfl⟩⟩, ?_⟩) n2)
              exact h.heapOK hrr p (fragOf_sub p (n3 p hp))
            rw [f2] at hf
            obtain ⟨A2, cap2, g1, g2⟩ := Rep.roLen hf
            injection g1 with g1 g3 g4
            refine ⟨_, hk, ?_⟩
            rw [f3]
            exact Rep.part hf (by omega) f5 f7
          · cases hk
        · cases hk
      · cases hk
    | _ => simp [look] at hk
  | _ => intro t K cs hk hs; cases t <;> simp [look] at hk
end
end Go.Proofs.Ytlgbhaigpecdoaa.V
