/- Values that are moved. -/
import Derived.Test.YtlgbhaigpecdoaaVTake
set_option linter.unusedVariables false
set_option linter.unusedSimpArgs false
namespace Go.Proofs.Ytlgbhaigpecdoaa.V
open Go

theorem Md.mk_fst (a b : Md) : (Md.mk a b).fst = a := by unfold Md.mk; split <;> simp_all [Md.fst]
theorem Md.mk_snd (a b : Md) : (Md.mk a b).snd = b := by unfold Md.mk; split <;> simp_all [Md.snd]
section
variable {G : Gl} {st : St} {vs : Array Value} {w : World} {Im Im' : Nat → Prop} {R R' : Real} {hand hand' : Frag} {T : Type} {r0 : T}
theorem Inv.less (h : Inv G st vs w Im R (hand ++ hand')) {h2 : Frag} (hs : List.Sublist h2 hand') : Inv G st vs w Im R (hand ++ h2) := by
  have hk : List.Sublist (keys h2) (keys hand') := hs.map _
  refine ⟨h.box, h.rep, h.sep.redis (fun i => ?_) (fun i j hij k h1 h2 => ?_) (fun i p hp => ?_), h.slots, h.len, h.keep⟩
  · cases i with
    | zero =>
      have := h.sep.nod 0
      rw [own_zero, keys_append] at this ⊢
      exact this.sublist (List.Sublist.append (List.Sublist.refl _) hk)
    | succ i => exact h.sep.nod (i + 1)
  · have m : ∀ i, k ∈ keys (own R (hand ++ _) i) → k ∈ keys (own R (hand ++ hand') i) := fun i hk' => by
      cases i with
      | zero =>
        rw [own_zero, keys_append] at hk' ⊢
        rcases List.mem_append.1 hk' with h | h
        · exact List.mem_append_left _ h
        · exact List.mem_append_right _ (hk.subset h)
      | succ i => exact hk'
    exact h.sep.sep i j hij k (m i h1) (m j h2)
  · cases i with
    | zero =>
      rcases List.mem_append.1 hp with h | h
      · exact ⟨0, List.mem_append_left _ h⟩
      · exact ⟨0, List.mem_append_right _ (hs.subset h)⟩
    | succ i => exact ⟨i + 1, hp⟩
theorem SVX.grow (g : Grow w w Im Im') {s : SV} {b : Bool} {cs : List Value} (h : SVX w Im R s b cs) : SVX w Im' R s b cs :=
  h.same g.im g.heap (fun _ _ _ h => h) (fun _ _ _ _ _ h => h) (fun _ _ _ h => h)
theorem Rep.ownPart {t : Ty} {m : Md} {xs : List (den t)} {A A' : Option Addr} {len cap cap' lo n : Nat} {h : Frag} (r : Rep w Im (.slc t) (.own m) xs [.slice A len cap] h) (h1 : lo + n ≤ len) (h2 : n ≤ cap') (h4 : lo + cap' ≤ cap)
    (h3 : 0 < cap' → A' = A.map fun a => a.add (lo * sz t)) : ∃ h', Rep w Im (.slc t) (.own m) ((xs.drop lo).take n) [.slice A' n cap'] h' ∧ List.Sublist h' h := by
  rcases Nat.eq_zero_or_pos cap' with h0 | h0
  · subst h0
    have : n = 0 := by omega
    subst this
    exact ⟨[], .inl ⟨by simp, ⟨A', rfl⟩, rfl⟩, List.nil_sublist _⟩
  · rcases r with ⟨e0, ⟨B, e⟩, _⟩ | ⟨b, o, c, el, cap2, h', e1, e2, e3, e4, e5, e6⟩
    · simp at e; omega
    · simp at e1
      obtain ⟨rfl, rfl, rfl⟩ := e1
      subst e2
      have hA := h3 h0
      simp only [Option.map_some, add_at] at hA
      obtain ⟨g1, g2, d1, s1, s2⟩ := RepL.split (n := sz t) (fun _ _ _ r => r.len) lo e6 (by omega)
      obtain ⟨g3, g4, d2, s3, s4⟩ := RepL.split (n := sz t) (fun _ _ _ r => r.len) n s2 (by simp; omega)
      subst d2; subst d1
      rw [List.drop_drop] at s3
      refine ⟨(b, (c, el)) :: g3, .inr ⟨b, o + lo * sz t, c, el, cap', g3, ?_, rfl, ?_, by omega, ?_, s3⟩, ?_⟩
      · rw [hA]; simp; omega
      · simp; omega
      · have : (lo + cap') * sz t ≤ cap * sz t := Nat.mul_le_mul_right _ h4
        rw [Nat.add_mul] at this; omega
      · refine List.Sublist.cons_cons _ ?_
        have : List.Sublist g3 (g3 ++ g4) := List.sublist_append_left _ _
        exact this.trans (List.sublist_append_right _ _)
theorem roots_forget (p : Bool → Nat → Path → Bool) (s : SV) : ∀ j, j ∈ roots (forget p s) → j ∈ roots s := by
  induction s with
  | agg a b iha ihb => intro j; simp only [V.forget, roots, List.mem_append]; exact fun h => h.imp (iha j) (ihb j)
  | tcons a b iha ihb => intro j; simp only [V.forget, roots, List.mem_append]; exact fun h => h.imp (iha j) (ihb j)
  | fn f c ih => intro j; simp only [V.forget, roots]; exact ih j
  | ref r q => intro j; simp only [V.forget]; split <;> simp [roots]
  | sub r q lo n => intro j; simp only [V.forget]; split <;> simp [roots]
  | ptr r q => intro j; simp only [V.forget]; split <;> simp [roots]
  | _ => intro j h; exact h
theorem rowAt_some {bs : List (Nat × Bx)} {r : Nat} {q : Path} {t : Ty} {K : Bx → List (den t) → Md → Option T} (h : rowAt bs r q t K = some r0) :
    ∃ b m, bget bs r = some b ∧ ∃ e : ctype b.t q = .slc t, mget b.m q = .own m ∧ K b (e ▸ cget b.t b.x q : den (.slc t)) m = some r0 := by
  unfold rowAt at h
  split at h
  · rename_i b hb
    split at h
    · rename_i e
      split at h
      · rename_i m hm
        exact ⟨b, m, hb, e, hm, h⟩
      · cases h
    · cases h
  · cases h
theorem toC_some : ∀ {t : Ty} {s : SV} {st : St} {Im : Nat → Prop} {R : Real} {hand : Frag} {wm : Md} {K : den t → Md → St → Option T} {cs : List Value}, toC st s t wm K = some r0 → Inv G st vs w Im R hand → SVX w Im R s false cs →
    ∃ x m st' Im' R' h1, K x m st' = some r0 ∧ Inv G st' vs w Im' R' (hand ++ h1) ∧ Rep w Im' t m x cs h1 ∧ Grow w w Im Im' ∧ (∀ {s : SV} {c : List Value}, SVX w Im R s false c → SVX w Im' R' (shallow s) false c) ∧ (∀ j, j ∉ roots s → R' j = R j) := by
  intro t
  induction t with
  | pair a b iha ihb =>
    intro s st Im R hand wm K cs hk h hs
    cases s with
    | con t' x =>
      simp only [toC] at hk
      split at hk
      · rename_i e; subst e
        exact ⟨x, .ro, st, Im, R, [], hk, by rw [List.append_nil]; exact h, hs, Grow.refl _ _, fun hx => hx.forget_more _, fun _ _ => rfl⟩
      · cases hk
    | raw v =>
      simp only [toC] at hk
      split at hk
      · rename_i x hp
        obtain ⟨c1, e, r, s1⟩ := parse_ok (w := w) (Im := Im) _ hp
        have hs : cs = v.cells.toList := hs
        exact ⟨x, _, st, Im, R, [], hk, by rw [List.append_nil]; exact h, by rw [hs, e]; simpa using s1 wm, Grow.refl _ _, fun hx => hx.forget_more _, fun _ _ => rfl⟩
      · cases hk
    | agg s1 s2 =>
      simp only [toC] at hk
      obtain ⟨c1, c2, e, x1, x2⟩ := hs
      obtain ⟨x, ma, st1, Im1, R1, h1, hk, hi1, r1, g1, v1, q1⟩ := iha hk h x1
      obtain ⟨y, mb, st2, Im2, R2, h2, hk, hi2, r2, g2, v2, q2⟩ := ihb hk hi1 (v1 x2)
      refine ⟨(x, y), _, st2, Im2, R2, h1 ++ h2, hk, by rw [← List.append_assoc]; exact hi2, ⟨c1, c2, h1, h2, e, rfl, ?_, ?_⟩, g1.trans g2, fun hx => ?_, fun j hj => ?_⟩
      · rw [Md.mk_fst]; exact r1.grow g2
      · rw [Md.mk_snd]; exact r2
      · have := v2 (v1 hx)
        rwa [shallow_shallow] at this
      · simp only [roots, List.mem_append, not_or] at hj
        rw [q2 j (fun hm => hj.2 (roots_forget _ _ j hm)), q1 j hj.1]
    | _ => simp [toC] at hk
  | slc t ih =>
    intro s st Im R hand wm K cs hk h hs
    cases s with
    | con t' x =>
      simp only [toC] at hk
      split at hk
      · rename_i e; subst e
        exact ⟨x, .ro, st, Im, R, [], hk, by rw [List.append_nil]; exact h, hs, Grow.refl _ _, fun hx => hx.forget_more _, fun _ _ => rfl⟩
      · cases hk
    | raw v =>
      simp only [toC] at hk
      split at hk
      · rename_i x hp
        obtain ⟨c1, e, r, s1⟩ := parse_ok (w := w) (Im := Im) _ hp
        have hs : cs = v.cells.toList := hs
        exact ⟨x, _, st, Im, R, [], hk, by rw [List.append_nil]; exact h, by rw [hs, e]; simpa using s1 wm, Grow.refl _ _, fun hx => hx.forget_more _, fun _ _ => rfl⟩
      · cases hk
    | emp =>
      simp only [toC] at hk
      obtain ⟨A, e⟩ := hs
      refine ⟨_, _, st, Im, R, [], hk, by rw [List.append_nil]; exact h, ?_, Grow.refl _ _, fun hx => hx.forget_more _, fun _ _ => rfl⟩
      subst e
      cases wm with
      | own m => exact .inl ⟨rfl, ⟨A, rfl⟩, rfl⟩
      | _ => exact ⟨rfl, A, 0, rfl, Nat.le_refl _, fun h => absurd rfl h⟩
    | ref r q =>
      simp only [toC] at hk
      split at hk
      · rename_i h0
        obtain ⟨b, m, hb, e, hm, hk⟩ := rowAt_some hk
        obtain ⟨v, e1, hr⟩ := hs
        subst e1
        obtain ⟨R', h1, hi, hrep, hsv, hq⟩ := h.take hb hr h0 e hm
        have hrep := hrep.cast e
        rw [hm] at hrep
        split at hk
        · split at hk
          · rename_i hl
            obtain ⟨hi2, g⟩ := hi.freeze
            refine ⟨_, _, _, _, R', [], hk, by rw [List.append_nil]; exact hi2, ?_, g, fun hx => (hsv hx).grow g, fun j hj => hq j (by simpa [roots] using hj)⟩
            refine Rep.freeze (w' := w) (t := .slc t) (m := .own m) hl g.im g.heap (fun p hp => ⟨.inr (keys_mem.2 ⟨p, hp, rfl⟩), ?_⟩) hrep
            exact hi.sep.heap 0 p (List.mem_append_right _ hp)
          · cases hk
        · exact ⟨_, _, _, Im, R', h1, hk, hi, hrep, Grow.refl _ _, hsv, fun j hj => hq j (by simpa [roots] using hj)⟩
      · cases hk
    | sub r q lo n =>
      simp only [toC] at hk
      split at hk
      · rename_i h0
        obtain ⟨b, m, hb, e, hm, hk⟩ := rowAt_some hk
        obtain ⟨v, e1, u, hr, hsub⟩ := hs
        subst e1
        obtain ⟨rb, hrr⟩ := h.real hb
        obtain ⟨t2, A, len, cap, A', cap', f1, f2, f3, f4, f5, f6, f7⟩ := hsub b rb hrr
        rw [e] at f1; injection f1 with f1; subst f1
        obtain ⟨R', h1, hi, hrep, hsv, hq⟩ := h.take hb hr h0 e hm
        have hrep := hrep.cast e
        rw [hm, f2] at hrep
        obtain ⟨A2, cap2, g1, g2⟩ := Rep.ownLen hrep
        injection g1 with g1 g3 g4
        split at hk
        · split at hk
          · rename_i hl
            obtain ⟨hi2, g⟩ := hi.freeze
            refine ⟨_, _, _, _, R', [], hk, by rw [List.append_nil]; exact hi2, ?_, g, fun hx => (hsv hx).grow g, fun j hj => hq j (by simpa [roots] using hj)⟩
            have hf := Rep.freeze (w' := w) (t := .slc t) (m := .own m) hl g.im g.heap (fun p hp => ⟨.inr (keys_mem.2 ⟨p, hp, rfl⟩), hi.sep.heap 0 p (List.mem_append_right _ hp)⟩) hrep
            rw [f3]
            exact Rep.part hf (by omega) f5 f7
          · cases hk
        · obtain ⟨h2, r2, s2⟩ := Rep.ownPart hrep f4 f5 f6 f7
          refine ⟨_, _, _, Im, R', h2, hk, hi.less s2, ?_, Grow.refl _ _, hsv, fun j hj => hq j (by simpa [roots] using hj)⟩
          rw [f3]; exact r2
      · cases hk
    | _ => simp [toC] at hk
  | _ =>
    intro s st Im R hand wm K cs hk h hs
    cases s with
    | con t' x =>
      simp only [toC] at hk
      split at hk
      · rename_i e; subst e
        exact ⟨x, .ro, st, Im, R, [], hk, by rw [List.append_nil]; exact h, hs, Grow.refl _ _, fun hx => hx.forget_more _, fun _ _ => rfl⟩
      · cases hk
    | raw v =>
      simp only [toC] at hk
      split at hk
      · rename_i x hp
        obtain ⟨c1, e, r, s1⟩ := parse_ok (w := w) (Im := Im) _ hp
        have hs : cs = v.cells.toList := hs
        exact ⟨x, _, st, Im, R, [], hk, by rw [List.append_nil]; exact h, by rw [hs, e]; simpa using s1 wm, Grow.refl _ _, fun hx => hx.forget_more _, fun _ _ => rfl⟩
      · cases hk
    | _ => simp [toC] at hk
end
end Go.Proofs.Ytlgbhaigpecdoaa.V
