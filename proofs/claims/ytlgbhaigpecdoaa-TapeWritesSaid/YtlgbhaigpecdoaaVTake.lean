/- Rows that are taken out of their places. -/
import Derived.Test.YtlgbhaigpecdoaaVMem
set_option linter.unusedVariables false
set_option linter.unusedSimpArgs false
namespace Go.Proofs.Ytlgbhaigpecdoaa.V
open Go

theorem cput_cget : ∀ (q : Path) {t : Ty} {m : Md} {x : den t}, Valid t x m q → lev q = 0 → cput t x q (cget t x q) = x
  | [], _, _, _, _, _ => rfl
  | s :: q, t, m, x, ⟨hs, hv⟩, h0 => by
    cases t <;> cases s <;> simp only [VStep] at hs <;> (try exact hs.elim)
    case pair.fst a b =>
      show (cput a x.1 q (cget a x.1 q), x.2) = x
      exact congrArg (fun y => (y, x.2)) (cput_cget q (t := a) (x := x.1) hv h0)
    case pair.snd a b =>
      show (x.1, cput b x.2 q (cget b x.2 q)) = x
      exact congrArg (fun y => (x.1, y)) (cput_cget q (t := b) (x := x.2) hv h0)
    case slc.idx t i => simp [lev] at h0
theorem forget_forget (p : Bool → Nat → Path → Bool) (s : SV) : forget p (forget p s) = forget p s := by
  induction s with
  | agg a b iha ihb => simp [V.forget, iha, ihb]
  | tcons a b iha ihb => simp [V.forget, iha, ihb]
  | fn f c ih => simp [V.forget, ih]
  | ref r q => simp only [V.forget]; split <;> simp_all [V.forget]
  | sub r q lo n => simp only [V.forget]; split <;> simp_all [V.forget]
  | ptr r q => simp only [V.forget]; split <;> simp_all [V.forget]
  | _ => rfl
theorem shallow_shallow (s : SV) : shallow (shallow s) = shallow s := forget_forget _ s
section
variable {G : Gl} {st : St} {vs : Array Value} {w : World} {Im : Nat → Prop} {R : Real} {hand : Frag}
theorem split_keys {A h1 B : Frag} (hn : (keys (A ++ h1 ++ B)).Nodup) : (keys (A ++ B)).Nodup ∧ (keys h1).Nodup ∧ ∀ k ∈ keys (A ++ B), k ∉ keys h1 := by
  simp only [keys_append] at hn ⊢
  obtain ⟨n1, n2, n3⟩ := List.nodup_append.1 hn
  obtain ⟨n4, n5, n6⟩ := List.nodup_append.1 n1
  refine ⟨List.nodup_append.2 ⟨n4, n2, fun a ha b hb => n3 a (List.mem_append_left _ ha) b hb⟩, n5, fun k hk hk2 => ?_⟩
  rcases List.mem_append.1 hk with h | h
  · exact n6 k h k hk2 rfl
  · exact n3 k (List.mem_append_right _ hk2) k h rfl
/-- A box gives something up: it is in hand. -/
theorem Inv.give (h : Inv G st vs w Im R hand) {r : Nat} {b b' : Bx} {rb rb' : RB} {A h1 B : Frag} (hr : R r = some (b, rb)) (e : rb.h = A ++ h1 ++ B) (hb : b'.mem = b.mem) (hcs : rb'.cs = rb.cs) (hbk : blkOf b' rb' = blkOf b rb) (e' : rb'.h = A ++ B)
    (hrep : Rep w Im b'.t b'.m b'.x rb'.cs rb'.h) {p : Bool → Nat → Path → Bool} {st' : St} (hbox : ∀ j, bget st'.boxes j = if j = r then some b' else bget st.boxes j) (hsl : st'.slots = st.slots.map (forget p))
    (hs : (∀ q v, p false r q = false → RefOK w R r q v → RefOK w (fun j => if j = r then some (b', rb') else R j) r q v) ∧ (∀ q lo n v, p false r q = false → SubOK w R r q lo n v → SubOK w (fun j => if j = r then some (b', rb') else R j) r q lo n v) ∧
      (∀ q v, p true r q = false → PtrOK w R r q v → PtrOK w (fun j => if j = r then some (b', rb') else R j) r q v)) :
    Inv G st' vs w Im (fun j => if j = r then some (b', rb') else R j) (hand ++ h1) ∧ (∀ {s : SV} {bb : Bool} {cs : List Value}, SVX w Im R s bb cs → SVX w Im (fun j => if j = r then some (b', rb') else R j) (forget p s) bb cs) := by
  have hsv := h.sv (Grow.refl w Im) (R' := fun j => if j = r then some (b', rb') else R j) (p := p) (fun j => by
    by_cases ej : j = r
    · subst ej; exact .inr hs
    · exact .inl ⟨by simp [ej], fun _ _ _ _ _ => rfl⟩)
  have hf : ∀ q ∈ fragOf b' rb', q ∈ fragOf b rb := by
    intro q hq; unfold fragOf at hq ⊢; rw [hb, hcs, hbk, e'] at hq
    cases hm : b.mem with
    | none => rw [hm] at hq; simp only at hq ⊢; rw [e]; simp at hq ⊢; rcases hq with hq | hq <;> simp [hq]
    | some ty => rw [hm] at hq; simp only at hq ⊢; rw [e]; simp at hq ⊢; rcases hq with hq | hq | hq <;> simp [hq]
  have hnf := h.nodup hr
  have hfn : (keys (fragOf b' rb')).Nodup ∧ (keys h1).Nodup ∧ ∀ k ∈ keys (fragOf b' rb'), k ∉ keys h1 := by
    unfold fragOf at hnf ⊢; rw [hb, hcs, hbk, e']; rw [e] at hnf
    cases hm : b.mem with
    | none => rw [hm] at hnf; exact split_keys hnf
    | some ty =>
      rw [hm] at hnf
      have := split_keys (A := (blkOf b rb, (rb.cs.toArray, ty)) :: A) (h1 := h1) (B := B) (by simpa using hnf)
      simpa using this
  have hh1 : ∀ q ∈ h1, q ∈ fragOf b rb := fun q hq => fragOf_sub q (by rw [e]; simp [hq])
  refine ⟨⟨fun j => ?_, fun j b2 r2 hb2 => ?_, h.sep.redis (fun j => ?_) (fun j l hjl k k1 k2 => ?_) (fun j q hq => ?_), fun n => ?_, ?_, h.keep⟩, hsv.1⟩
  · rw [hbox]; split
    · simp
    · exact h.box j
  · have hb2 : (if j = r then some (b', rb') else R j) = some (b2, r2) := hb2
    split at hb2
    · cases hb2; exact hrep
    · exact h.rep j b2 r2 hb2
  · cases j with
    | zero =>
      show (keys (hand ++ h1)).Nodup
      rw [keys_append]
      refine List.nodup_append.2 ⟨h.sep.nod 0, hfn.2.1, fun a ha c hc e => ?_⟩
      subst e
      obtain ⟨q, hq, eq⟩ := keys_mem.1 hc
      exact h.sep.sep 0 (r + 1) (by simp) a ha (by rw [own_at hr]; exact keys_mem.2 ⟨q, hh1 q hq, eq⟩)
    | succ j =>
      simp only [own]
      by_cases ej : j = r
      · rw [if_pos ej]; exact hfn.1
      · rw [if_neg ej]; exact h.sep.nod (j + 1)
  · have m : ∀ j, k ∈ keys (own (fun j => if j = r then some (b', rb') else R j) (hand ++ h1) j) → ((j = 0 ∧ k ∈ keys hand) ∨ (j = 0 ∧ k ∈ keys h1) ∨ (j = r + 1 ∧ k ∈ keys (fragOf b' rb')) ∨ (j ≠ 0 ∧ j ≠ r + 1 ∧ k ∈ keys (own R hand j))) := by
      intro j hk
      cases j with
      | zero => rw [own_zero, keys_append] at hk; rcases List.mem_append.1 hk with hk | hk <;> simp [hk]
      | succ j =>
        simp only [own] at hk
        by_cases ej : j = r
        · rw [if_pos ej] at hk; exact .inr (.inr (.inl ⟨by rw [ej], hk⟩))
        · rw [if_neg ej] at hk; exact .inr (.inr (.inr ⟨by simp, by simpa using ej, hk⟩))
    have inb : ∀ {hh : Frag}, (∀ q ∈ hh, q ∈ fragOf b rb) → k ∈ keys hh → k ∈ keys (own R hand (r + 1)) := fun hs hk => by
      obtain ⟨q, hq, eq⟩ := keys_mem.1 hk; rw [own_at hr]; exact keys_mem.2 ⟨q, hs q hq, eq⟩
    rcases m j k1 with ⟨e1, a1⟩ | ⟨e1, a1⟩ | ⟨e1, a1⟩ | ⟨e1, e1', a1⟩ <;> rcases m l k2 with ⟨e2, a2⟩ | ⟨e2, a2⟩ | ⟨e2, a2⟩ | ⟨e2, e2', a2⟩
    · exact hjl (e1.trans e2.symm)
    · exact hjl (e1.trans e2.symm)
    · exact h.sep.sep 0 (r + 1) (by simp) k a1 (inb hf a2)
    · exact h.sep.sep 0 l (Ne.symm e2) k a1 a2
    · exact hjl (e1.trans e2.symm)
    · exact hjl (e1.trans e2.symm)
    · exact hfn.2.2 k a2 a1
    · exact h.sep.sep (r + 1) l (Ne.symm e2') k (inb hh1 a1) a2
    · exact h.sep.sep 0 (r + 1) (by simp) k a2 (inb hf a1)
    · exact hfn.2.2 k a1 a2
    · exact hjl (e1.trans e2.symm)
    · exact h.sep.sep (r + 1) l (Ne.symm e2') k (inb hf a1) a2
    · exact h.sep.sep j 0 e1 k a1 a2
    · exact h.sep.sep j (r + 1) e1' k a1 (inb hh1 a2)
    · exact h.sep.sep j (r + 1) e1' k a1 (inb hf a2)
    · exact h.sep.sep j l hjl k a1 a2
  · cases j with
    | zero =>
      rcases List.mem_append.1 hq with hq | hq
      · exact ⟨0, hq⟩
      · exact ⟨r + 1, by rw [own_at hr]; exact hh1 q hq⟩
    | succ j =>
      simp only [own] at hq
      by_cases ej : j = r
      · rw [if_pos ej] at hq; exact ⟨r + 1, by rw [own_at hr]; exact hf q hq⟩
      · rw [if_neg ej] at hq; exact ⟨j + 1, hq⟩
  · rw [hsl, sget_map]; exact hsv.2 (h.slots n)
  · rw [hsl, List.length_map]; exact h.len
/-- A box goes: what it owned is in hand. -/
theorem Inv.gone (h : Inv G st vs w Im R hand) {r : Nat} {b : Bx} {rb : RB} (hr : R r = some (b, rb)) :
    Inv G (st.drop r) vs w Im (fun j => if j = r then none else R j) (hand ++ fragOf b rb) ∧ (∀ {s : SV} {bb : Bool} {cs : List Value}, SVX w Im R s bb cs → SVX w Im (fun j => if j = r then none else R j) s bb cs) := by
  have hsv := fun p => h.sv (Grow.refl w Im) (R' := fun j => if j = r then none else R j) (p := p) (fun j => by
    by_cases ej : j = r
    · subst ej
      exact .inr ⟨fun q v _ _ b rb hb => by simp at hb, fun q lo n v _ ⟨u, _, h2⟩ => ⟨u, fun b rb hb => by simp at hb, fun b rb hb => by simp at hb⟩, fun q v _ _ b rb hb => by simp at hb⟩
    · exact .inl ⟨by simp [ej], fun _ _ _ _ _ => rfl⟩)
  refine ⟨⟨fun j => ?_, fun j b2 r2 hb2 => ?_, h.sep.redis (fun j => ?_) (fun j l hjl k k1 k2 => ?_) (fun j q hq => ?_), fun n => ?_, ?_, h.keep⟩, fun hx => ?_⟩
  · show bget (bdel r st.boxes) j = _
    rw [bget_bdel]; split
    · simp
    · exact h.box j
  · have hb2 : (if j = r then none else R j) = some (b2, r2) := hb2
    split at hb2
    · cases hb2
    · exact h.rep j b2 r2 hb2
  · cases j with
    | zero =>
      show (keys (hand ++ fragOf b rb)).Nodup
      rw [keys_append]
      refine List.nodup_append.2 ⟨h.sep.nod 0, h.nodup hr, fun a ha c hc e => ?_⟩
      subst e
      exact h.sep.sep 0 (r + 1) (by simp) a ha (by rw [own_at hr]; exact hc)
    | succ j =>
      simp only [own]
      by_cases ej : j = r
      · rw [if_pos ej]; simp [keys]
      · rw [if_neg ej]; exact h.sep.nod (j + 1)
  · have m : ∀ j, k ∈ keys (own (fun j => if j = r then none else R j) (hand ++ fragOf b rb) j) → ((j = 0 ∧ k ∈ keys hand) ∨ (j = 0 ∧ k ∈ keys (own R hand (r + 1))) ∨ (j ≠ 0 ∧ j ≠ r + 1 ∧ k ∈ keys (own R hand j))) := by
      intro j hk
      cases j with
      | zero => rw [own_zero, keys_append] at hk; rw [own_at hr]; rcases List.mem_append.1 hk with hk | hk <;> simp [hk]
      | succ j =>
        simp only [own] at hk
        by_cases ej : j = r
        · rw [if_pos ej] at hk; simp [keys] at hk
        · rw [if_neg ej] at hk; exact .inr (.inr ⟨by simp, by simpa using ej, hk⟩)
    rcases m j k1 with ⟨e1, a1⟩ | ⟨e1, a1⟩ | ⟨e1, e1', a1⟩ <;> rcases m l k2 with ⟨e2, a2⟩ | ⟨e2, a2⟩ | ⟨e2, e2', a2⟩
    · exact hjl (e1.trans e2.symm)
    · exact hjl (e1.trans e2.symm)
    · exact h.sep.sep 0 l (Ne.symm e2) k a1 a2
    · exact hjl (e1.trans e2.symm)
    · exact hjl (e1.trans e2.symm)
    · exact h.sep.sep (r + 1) l (Ne.symm e2') k a1 a2
    · exact h.sep.sep j 0 e1 k a1 a2
    · exact h.sep.sep j (r + 1) e1' k a1 a2
    · exact h.sep.sep j l hjl k a1 a2
  · cases j with
    | zero =>
      rcases List.mem_append.1 hq with hq | hq
      · exact ⟨0, hq⟩
      · exact ⟨r + 1, by rw [own_at hr]; exact hq⟩
    | succ j =>
      simp only [own] at hq
      by_cases ej : j = r
      · rw [if_pos ej] at hq; simp at hq
      · rw [if_neg ej] at hq; exact ⟨j + 1, hq⟩
  · show SVV w Im _ (sget (st.slots.map (killAll r)) n) _
    rw [show killAll r = forget fun _ s _ => decide (s = r) from rfl, sget_map]
    exact (hsv _).2 (h.slots n)
  · show (st.slots.map (killAll r)).length = vs.size
    rw [List.length_map]; exact h.len
  · have := (hsv (fun _ _ _ => false)).1 hx; rwa [forget_none] at this
theorem SVX.forget_more {R : Real} (p : Bool → Nat → Path → Bool) {s : SV} {b : Bool} {cs : List Value} (h : SVX w Im R s b cs) : SVX w Im R (V.forget p s) b cs :=
  h.forget (fun _ h => h) (fun _ _ => rfl) (fun _ _ _ _ h => h) (fun _ _ _ _ _ _ h => h) (fun _ _ _ _ h => h)
theorem Inv.take (h : Inv G st vs w Im R hand) {r : Nat} {q : Path} {b : Bx} {v : Value} (hb : bget st.boxes r = some b) (hv : RefOK w R r q v) (h0 : lev q = 0) {t : Ty} {m : Md} (ht : ctype b.t q = .slc t) (hm : mget b.m q = .own m) :
    ∃ R' h1, Inv G (st.take r q b) vs w Im R' (hand ++ h1) ∧ Rep w Im (ctype b.t q) (mget b.m q) (cget b.t b.x q) [v] h1 ∧ (∀ {s : SV} {c : List Value}, SVX w Im R s false c → SVX w Im R' (shallow s) false c) ∧ (∀ j, j ≠ r → R' j = R j) := by
  obtain ⟨rb, hr⟩ := h.real hb
  obtain ⟨hval, hslc, ad, hn⟩ := hv b rb hr
  have main : ∃ R' h1, Inv G { slots := st.slots.map (kill1 r), boxes := bset r { b with m := mput b.m q .dead } st.boxes } vs w Im R' (hand ++ h1) ∧
      Rep w Im (ctype b.t q) (mget b.m q) (cget b.t b.x q) [v] h1 ∧ (∀ {s : SV} {c : List Value}, SVX w Im R s false c → SVX w Im R' (shallow s) false c) ∧ (∀ j, j ≠ r → R' j = R j) := by
    obtain ⟨cs', ad', A, h1, B, n1, n2, n3, n4, _⟩ := focus q (ad := locOf b rb) hval (h.rep r b rb hr) (fun p hp => h.heapOK hr p (fragOf_sub p hp)) (h.nodup' hr)
    rw [hn] at n1
    simp only [Option.some.injEq, Prod.mk.injEq] at n1
    obtain ⟨rfl, rfl⟩ := n1
    obtain ⟨pre, post, p1, p2, p3, p4, p5⟩ := n4 h0
    have hdead : Rep w Im (ctype b.t q) .dead (cget b.t b.x q) [v] [] := by
      have h1 := n3.one
      revert h1
      generalize cget b.t b.x q = X
      revert X
      rw [ht]
      intro X h1
      exact ⟨⟨v, rfl, h1 v (List.mem_cons_self ..)⟩, rfl⟩
    have hnew := p3 w Im (Grow.refl w Im) .dead _ _ _ hdead
    rw [cput_cget q hval h0] at hnew
    have hst : ∀ q', lev q' = 0 → Valid b.t b.x b.m q' → Valid b.t b.x (mput b.m q .dead) q' := fun q' h0' hv' => valid0 q' h0' hv'
    have := h.give (b' := { b with m := mput b.m q .dead }) (rb' := { rb with h := A ++ B }) (p := fun _ s q => decide (s = r) && !decide (lev q = 0)) (st' := { slots := st.slots.map (kill1 r), boxes := bset r { b with m := mput b.m q .dead } st.boxes })
      hr n2 rfl rfl rfl rfl (by rw [p1]; simpa using hnew) (fun j => by rw [bget_bset]) rfl
      ⟨fun q' v' hp hh => by
          intro b2 rb2 hb2
          simp only [if_true] at hb2; cases hb2
          have h0' : lev q' = 0 := by simpa using hp
          obtain ⟨hv', ht', ad2, hn2⟩ := hh b rb hr
          exact ⟨hst q' h0' hv', ht', ad2, hn2⟩,
       fun q' lo n v' hp ⟨u, hh, hsub⟩ => by
          have h0' : lev q' = 0 := by simpa using hp
          refine ⟨u, ?_, ?_⟩
          · intro b2 rb2 hb2
            simp only [if_true] at hb2; cases hb2
            obtain ⟨hv', ht', ad2, hn2⟩ := hh b rb hr
            exact ⟨hst q' h0' hv', ht', ad2, hn2⟩
          · intro b2 rb2 hb2
            simp only [if_true] at hb2; cases hb2
            exact hsub b rb hr,
       fun q' v' hp hh => by
          intro b2 rb2 hb2
          simp only [if_true] at hb2; cases hb2
          have h0' : lev q' = 0 := by simpa using hp
          obtain ⟨hv', cs2, b3, o, hn2, e⟩ := hh b rb hr
          exact ⟨hst q' h0' hv', cs2, b3, o, hn2, e⟩⟩
    refine ⟨_, h1, this.1, n3, fun {s c} hx => ?_, fun j hj => by simp [hj]⟩
    have h2 := h.sv (Grow.refl w Im) (R' := fun j => if j = r then some ({ b with m := mput b.m q .dead }, { rb with h := A ++ B }) else R j) (p := fun _ _ q => !decide (lev q = 0)) (fun j => by
      by_cases ej : j = r
      · subst ej
        exact .inr ⟨fun q' v' hp hh => by
            intro b2 rb2 hb2
            simp only [if_true] at hb2; cases hb2
            have h0' : lev q' = 0 := by simpa using hp
            obtain ⟨hv', ht', ad2, hn2⟩ := hh b rb hr
            exact ⟨hst q' h0' hv', ht', ad2, hn2⟩,
          fun q' lo n v' hp ⟨u, hh, hsub⟩ => by
            have h0' : lev q' = 0 := by simpa using hp
            refine ⟨u, ?_, ?_⟩
            · intro b2 rb2 hb2
              simp only [if_true] at hb2; cases hb2
              obtain ⟨hv', ht', ad2, hn2⟩ := hh b rb hr
              exact ⟨hst q' h0' hv', ht', ad2, hn2⟩
            · intro b2 rb2 hb2
              simp only [if_true] at hb2; cases hb2
              exact hsub b rb hr,
          fun q' v' hp hh => by
            intro b2 rb2 hb2
            simp only [if_true] at hb2; cases hb2
            have h0' : lev q' = 0 := by simpa using hp
            obtain ⟨hv', cs2, b3, o, hn2, e⟩ := hh b rb hr
            exact ⟨hst q' h0' hv', cs2, b3, o, hn2, e⟩⟩
      · exact .inl ⟨by simp [ej], fun _ _ _ _ _ => rfl⟩)
    exact h2.1 hx
  exact main
end
end Go.Proofs.Ytlgbhaigpecdoaa.V
