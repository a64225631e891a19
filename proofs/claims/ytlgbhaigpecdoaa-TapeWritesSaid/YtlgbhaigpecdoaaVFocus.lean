/- One place of a box: what stands there, and what the box is when something else is put there. -/
import Derived.Test.YtlgbhaigpecdoaaVInv
set_option linter.unusedVariables false
set_option linter.unusedSimpArgs false
namespace Go.Proofs.Ytlgbhaigpecdoaa.V
open Go

abbrev HeapOK (w : World) (h : Frag) : Prop := ∀ p ∈ h, w.heap[p.1]? = some (.cells p.2.1 p.2.2 (0, 0))
structure Grow (w w' : World) (Im Im' : Nat → Prop) : Prop where
  im : ∀ b, Im b → Im' b
  heap : ∀ b, Im b → w'.heap[b]? = w.heap[b]?
theorem Grow.refl (w : World) (Im : Nat → Prop) : Grow w w Im Im := ⟨fun _ h => h, fun _ _ => rfl⟩
theorem Grow.trans {a b c : World} {I J K : Nat → Prop} (h : Grow a b I J) (k : Grow b c J K) : Grow a c I K :=
  ⟨fun x hx => k.im x (h.im x hx), fun x hx => (k.heap x (h.im x hx)).trans (h.heap x hx)⟩
theorem Rep.grow {w w' : World} {Im Im' : Nat → Prop} (g : Grow w w' Im Im') {t : Ty} {m : Md} {x : den t} {cs : List Value} {h : Frag} (r : Rep w Im t m x cs h) : Rep w' Im' t m x cs h := r.frame g.im g.heap

theorem getD_at {α : Type} {xs : List α} {i : Nat} (h : i < xs.length) (d : α) : xs.getD i d = xs[i] := by simp [List.getD, List.getElem?_eq_getElem h]
theorem Rep.own_cons {w : World} {Im : Nat → Prop} {t : Ty} {m : Md} {xs : List (den t)} {cs : List Value} {h : Frag} (r : Rep w Im (.slc t) (.own m) xs cs h) (hne : xs ≠ []) :
    ∃ b o c e cap h', cs = [.slice (some ⟨b, o, none⟩) xs.length cap] ∧ h = (b, (c, e)) :: h' ∧ xs.length ≤ cap ∧ cap ≤ maxLen ∧ o + cap * sz t ≤ c.size ∧
        RepL (fun x cs h => Rep w Im t m x cs h) xs (c.toList.drop o) h' := by
  rcases r with ⟨e, _⟩ | r
  · exact absurd e hne
  · exact r

theorem valid0 : ∀ (q : Path) {t : Ty} {m m' : Md} {x x' : den t}, lev q = 0 → Valid t x m q → Valid t x' m' q
  | [], _, _, _, _, _, _, _ => trivial
  | s :: q, t, m, m', x, x', h0, ⟨hs, hv⟩ => by
    cases t <;> cases s <;> simp only [VStep] at hs <;> (try exact hs.elim)
    · exact ⟨trivial, valid0 q (by simpa [lev] using h0) hv⟩
    · exact ⟨trivial, valid0 q (by simpa [lev] using h0) hv⟩
    · simp [lev] at h0
theorem nav0 : ∀ (q : Path) {t : Ty} {m : Md} {x : den t} {w w' : World} {cs cs' c : List Value} {ad ad2 : Option (Nat × Nat)}, lev q = 0 → Valid t x m q → nav w t cs ad q = some (c, ad2) → ∃ c', nav w' t cs' ad q = some (c', ad2)
  | [], _, _, _, _, _, _, _, _, _, _, _, _, h => by simp [nav] at h ⊢; exact h.2
  | s :: q, t, m, x, w, w', cs, cs', c, ad, ad2, h0, ⟨hs, hv⟩, h => by
    cases t <;> cases s <;> simp only [VStep] at hs <;> (try exact hs.elim)
    · simp only [nav, navStep] at h ⊢
      exact nav0 q (by simpa [lev] using h0) hv h
    · simp only [nav, navStep] at h ⊢
      exact nav0 q (by simpa [lev] using h0) hv h
    · simp [lev] at h0
theorem flat_valid : ∀ (q : Path) {t : Ty} {m : Md} {x : den t}, flat t = true → Valid t x m q → lev q = 0 ∧ flat (ctype t q) = true
  | [], _, _, _, hf, _ => ⟨rfl, hf⟩
  | s :: q, t, m, x, hf, ⟨hs, hv⟩ => by
    cases t <;> cases s <;> simp only [VStep] at hs <;> (try exact hs.elim)
    · simp only [flat, Bool.and_eq_true] at hf
      have := flat_valid q (t := _) hf.1 hv
      exact ⟨by simpa [lev] using this.1, this.2⟩
    · simp only [flat, Bool.and_eq_true] at hf
      have := flat_valid q (t := _) hf.2 hv
      exact ⟨by simpa [lev] using this.1, this.2⟩
    · simp [flat] at hf
theorem getD_set {α : Type} (xs : List α) (i j : Nat) (d y : α) (hi : i < xs.length) : (xs.set i y).getD j d = if j = i then y else xs.getD j d := by
  by_cases hji : j = i
  · subst hji; simp [List.getD_eq_getElem?_getD, hi]
  · rw [if_neg hji]; simp only [List.getD_eq_getElem?_getD]; rw [List.getElem?_set_ne (Ne.symm hji)]
theorem nav_frame {w w' : World} {Im : Nat → Prop} : ∀ (q : Path) {t : Ty} {m : Md} {x : den t} {cs : List Value} {h : Frag} {ad : Option (Nat × Nat)}, Valid t x m q → Rep w Im t m x cs h → HeapOK w h →
    (∀ k ∈ keys h, w'.heap[k]? = w.heap[k]?) → nav w' t cs ad q = nav w t cs ad q
  | [], _, _, _, _, _, _, _, _, _, _ => rfl
  | s :: q, t, m, x, cs, h, ad, ⟨hs, hv⟩, hr, hh, hk => by
    cases t <;> cases s <;> simp only [VStep] at hs <;> (try exact hs.elim)
    case pair.fst a b =>
      obtain ⟨c1, c2, h1, h2, e1, e2, r1, r2⟩ := hr
      subst e1; subst e2
      have hl := r1.len
      have et : (c1 ++ c2).take (sz a) = c1 := by rw [← hl]; simp
      simp only [nav, navStep, et]
      exact nav_frame (t := a) q hv r1 (fun p hp => hh p (List.mem_append_left _ hp)) (fun k hk' => hk k (by rw [keys_append]; exact List.mem_append_left _ hk'))
    case pair.snd a b =>
      obtain ⟨c1, c2, h1, h2, e1, e2, r1, r2⟩ := hr
      subst e1; subst e2
      have hl := r1.len
      have et : (c1 ++ c2).drop (sz a) = c2 := by rw [← hl]; simp
      simp only [nav, navStep, et]
      exact nav_frame (t := b) q hv r2 (fun p hp => hh p (List.mem_append_right _ hp)) (fun k hk' => hk k (by rw [keys_append]; exact List.mem_append_right _ hk'))
    case slc.idx t i =>
      obtain ⟨hi, me, rfl⟩ := hs
      have hi : i < List.length x := hi
      obtain ⟨b, o, c, e, cap, h', e1, e2, e3, e4, e5, r1⟩ := Rep.own_cons hr (by intro h0; rw [h0] at hi; simp at hi)
      subst e1; subst e2
      obtain ⟨pre0, c0, post0, hp, g0, hq, d1, d2, d3, d4, d5, d6⟩ := RepL.nth (n := sz t) (dflt t) (fun _ _ _ r => r.len) i hi r1
      subst d2
      have hhb : w.heap[b]? = some (.cells c e (0, 0)) := hh (b, (c, e)) (List.mem_cons_self ..)
      have hhb' : w'.heap[b]? = some (.cells c e (0, 0)) := (hk b (by simp [keys])).trans hhb
      have hl0 : c0.length = sz t := d4.len
      have et : (c.toList.drop (o + i * sz t)).take (sz t) = c0 := by
        rw [← List.drop_drop, d1, ← d3]; simp [← hl0]
      simp only [nav, navStep, hhb, hhb', et]
      exact nav_frame q (t := t) hv d4 (fun p hp' => hh p (List.mem_cons_of_mem _ (List.mem_append_left _ (List.mem_append_right _ hp')))) (fun k hk' => hk k (by
        simp only [keys_cons, keys_append, List.mem_cons, List.mem_append]; exact .inr (.inl (.inr hk'))))
theorem keys_mem {h : Frag} {k : Nat} : k ∈ keys h ↔ ∃ p ∈ h, p.1 = k := by simp [keys]

/-- A way of a slice's type, and of an address, before and after a change. -/
def Stays (fl : Prop) (t : Ty) (q2 : Path) (same : Prop) (n n' : Option (List Value × Option (Nat × Nat))) : Prop :=
  ∀ c ad2, n = some (c, ad2) → ∃ c', n' = some (c', ad2) ∧ ((∃ t', ctype t q2 = .slc t') → (fl ∨ same) → c' = c)

theorem focus {w : World} {Im : Nat → Prop} : ∀ (q : Path) {t : Ty} {m : Md} {x : den t} {cs : List Value} {h : Frag} {ad : Option (Nat × Nat)}, Valid t x m q → Rep w Im t m x cs h → HeapOK w h → (keys h).Nodup →
    ∃ cs' ad' A h1 B, nav w t cs ad q = some (cs', ad') ∧ h = A ++ h1 ++ B ∧ Rep w Im (ctype t q) (mget m q) (cget t x q) cs' h1 ∧
      (lev q = 0 → ∃ pre post, cs = pre ++ cs' ++ post ∧ ad' = ad.map (fun p => (p.1, p.2 + pre.length)) ∧
        (∀ w' Im', Grow w w' Im Im' → ∀ mm y c2 h2, Rep w' Im' (ctype t q) mm y c2 h2 → Rep w' Im' t (mput m q mm) (cput t x q y) (pre ++ c2 ++ post) (A ++ h2 ++ B)) ∧
        (∀ w' Im', Grow w w' Im Im' → ∀ y c2 h2, Rep w' Im' (ctype t q) (mget m q) y c2 h2 → Rep w' Im' t m (cput t x q y) (pre ++ c2 ++ post) (A ++ h2 ++ B)) ∧
        (∀ w' c2, c2.length = sz (ctype t q) → (∀ k ∈ keys h, w'.heap[k]? = w.heap[k]?) → ∀ y q2, Valid t x m q2 → (flat (ctype t q) = true ∨ lev q2 = 0) →
          (flat (ctype t q) = true → Valid t (cput t x q y) m q2) ∧ Stays (flat (ctype t q) = true) t q2 False (nav w t cs ad q2) (nav w' t (pre ++ c2 ++ post) ad q2))) ∧
      (lev q ≠ 0 → ∃ A1 A2 b c e pre post, A = A1 ++ (b, (c, e)) :: A2 ∧ c.toList = pre ++ cs' ++ post ∧ ad' = some (b, pre.length) ∧
        (∀ w' Im', Grow w w' Im Im' → ∀ y c2 h2, Rep w' Im' (ctype t q) (mget m q) y c2 h2 →
          Rep w' Im' t m (cput t x q y) cs (A1 ++ (b, ((pre ++ c2 ++ post).toArray, e)) :: A2 ++ h2 ++ B)) ∧
        (∀ w' c2, c2.length = sz (ctype t q) → w'.heap[b]? = some (.cells (pre ++ c2 ++ post).toArray e (0, 0)) → (∀ k ∈ keys h, k ≠ b → w'.heap[k]? = w.heap[k]?) →
          ∀ y q2, Valid t x m q2 → (flat (ctype t q) = true ∨ lev q2 ≤ lev q) →
          Valid t (cput t x q y) m q2 ∧ Stays (flat (ctype t q) = true) t q2 (lev q2 < lev q) (nav w t cs ad q2) (nav w' t cs ad q2))) := by
  intro q
  induction q with
  | nil =>
    intro t m x cs h ad hv hr hh hnd
    refine ⟨cs, ad, [], h, [], rfl, by simp, hr, fun _ => ⟨[], [], by simp, ?_, ?_, ?_, ?_⟩, fun h0 => absurd rfl h0⟩
    · cases ad <;> simp
    · intro w' Im' g mm y c2 h2 r; simp only [List.nil_append, List.append_nil]; exact r
    · intro w' Im' g y c2 h2 r; simp only [List.nil_append, List.append_nil]; exact r
    · intro w' c2 hc2 hk y q2 hv2 hc
      have h0 : lev q2 = 0 := by
        rcases hc with hc | hc
        · exact (flat_valid q2 (t := t) hc hv2).1
        · exact hc
      refine ⟨fun _ => valid0 q2 h0 hv2, fun c ad2 hn => ?_⟩
      obtain ⟨c', hc'⟩ := nav0 (w' := w') (cs' := c2) q2 h0 hv2 hn
      refine ⟨c', by simpa using hc', fun ⟨t', ht'⟩ hs => ?_⟩
      rcases hs with hs | hs
      · have := (flat_valid q2 (t := t) hs hv2).2
        rw [ht'] at this
        simp [flat] at this
      · exact hs.elim
  | cons s q ih =>
    intro t m x cs h ad hv hr hh hnd
    obtain ⟨hs, hv⟩ := hv
    cases t with
    | pair a b =>
      cases s with
      | fst =>
        obtain ⟨c1, c2, h1, h2, e1, e2, r1, r2⟩ := hr
        subst e1; subst e2
        have hl := r1.len
        rw [keys_append] at hnd
        obtain ⟨hn1, hn2, hn12⟩ := List.nodup_append.1 hnd
        obtain ⟨cs', ad', A, g1, B, n1, n2, n3, n4, n5⟩ := ih (ad := ad) hv r1 (fun p hp => hh p (List.mem_append_left _ hp)) hn1
        have et : (c1 ++ c2).take (sz a) = c1 := by rw [← hl]; simp
        have ed : (c1 ++ c2).drop (sz a) = c2 := by rw [← hl]; simp
        have hsub : ∀ k ∈ keys (A ++ g1 ++ B), k ∈ keys h1 := by intro k hk; rw [n2]; exact hk
        refine ⟨cs', ad', A, g1, B ++ h2, ?_, by rw [n2]; simp, n3, ?_, ?_⟩
        · simpa [nav, navStep, et] using n1
        · intro h0
          obtain ⟨pre, post, d1, d2, d3, d4, d5⟩ := n4 (by simpa [lev] using h0)
          refine ⟨pre, post ++ c2, by rw [d1]; simp, d2, ?_, ?_, ?_⟩
          · intro w' Im' g mm y c2' h2' r
            exact ⟨pre ++ c2' ++ post, c2, A ++ h2' ++ B, h2, by simp, by simp, d3 w' Im' g mm y c2' h2' r, r2.grow g⟩
          · intro w' Im' g y c2' h2' r
            exact ⟨pre ++ c2' ++ post, c2, A ++ h2' ++ B, h2, by simp, by simp, d4 w' Im' g y c2' h2' r, r2.grow g⟩
          · intro w' c2' hc2 hk y q2 hv2 hc
            have hcl : c2'.length = cs'.length := hc2.trans n3.len.symm
            have hlen : (pre ++ c2' ++ post).length = sz a := by
              rw [← hl, d1]; simp [hcl]
            have e3 : pre ++ c2' ++ (post ++ c2) = (pre ++ c2' ++ post) ++ c2 := by simp
            have et' : (pre ++ c2' ++ (post ++ c2)).take (sz a) = pre ++ c2' ++ post := by rw [e3, ← hlen]; exact List.take_left
            have ed' : (pre ++ c2' ++ (post ++ c2)).drop (sz a) = c2 := by rw [e3, ← hlen]; exact List.drop_left
            cases q2 with
            | nil => 
              refine ⟨fun _ => trivial, fun c ad2 hn => ?_⟩
              have hn2 : ad = ad2 := by simp [nav] at hn; exact hn.2
              subst hn2
              exact ⟨_, rfl, fun ⟨t', ht'⟩ => by simp [ctype] at ht'⟩
            | cons s2 q2 =>
              obtain ⟨hs2, hv2⟩ := hv2
              cases s2 with
              | fst =>
                obtain ⟨u1, u2⟩ := d5 w' c2' hc2 (fun k hk' => hk k (by rw [keys_append]; exact List.mem_append_left _ hk')) y q2 hv2 hc
                refine ⟨fun hf => ⟨trivial, u1 hf⟩, ?_⟩
                show Stays _ _ _ _ (nav w a ((c1 ++ c2).take (sz a)) ad q2) (nav w' a ((pre ++ c2' ++ (post ++ c2)).take (sz a)) ad q2)
                rw [et, et']; exact u2
              | snd =>
                refine ⟨fun hf => ⟨trivial, hv2⟩, ?_⟩
                show Stays _ _ _ _ (nav w b ((c1 ++ c2).drop (sz a)) _ q2) (nav w' b ((pre ++ c2' ++ (post ++ c2)).drop (sz a)) _ q2)
                rw [ed, ed', nav_frame (t := b) q2 hv2 r2 (fun p hp => hh p (List.mem_append_right _ hp)) (fun k hk' => hk k (by rw [keys_append]; exact List.mem_append_right _ hk'))]
                exact fun c ad2 hn => ⟨c, hn, fun _ _ => rfl⟩
              | idx i => exact absurd hs2 (by simp [VStep])
        · intro h0
          obtain ⟨A1, A2, b', c, e, pre, post, d0, d1, d2, d3, d4⟩ := n5 (by simpa [lev] using h0)
          have hb' : b' ∈ keys h1 := by rw [n2, d0]; simp [keys]
          refine ⟨A1, A2, b', c, e, pre, post, d0, d1, d2, ?_, ?_⟩
          · intro w' Im' g y c2' h2' r
            exact ⟨c1, c2, _, h2, rfl, by simp, d3 w' Im' g y c2' h2' r, r2.grow g⟩
          · intro w' c2' hc2 hb hk y q2 hv2 hc
            have hcl : c2'.length = cs'.length := hc2.trans n3.len.symm
            cases q2 with
            | nil => exact ⟨trivial, fun c ad2 hn => ⟨_, hn, fun ⟨t', ht'⟩ => by simp [ctype] at ht'⟩⟩
            | cons s2 q2 =>
              obtain ⟨hs2, hv2⟩ := hv2
              cases s2 with
              | fst =>
                obtain ⟨u1, u2⟩ := d4 w' c2' hc2 hb (fun k hk' => hk k (by rw [keys_append]; exact List.mem_append_left _ hk')) y q2 hv2 hc
                refine ⟨⟨trivial, u1⟩, ?_⟩
                show Stays _ _ _ _ (nav w a ((c1 ++ c2).take (sz a)) ad q2) (nav w' a ((c1 ++ c2).take (sz a)) ad q2)
                rw [et]; exact u2
              | snd =>
                refine ⟨⟨trivial, hv2⟩, ?_⟩
                show Stays _ _ _ _ (nav w b ((c1 ++ c2).drop (sz a)) _ q2) (nav w' b ((c1 ++ c2).drop (sz a)) _ q2)
                rw [ed, nav_frame (t := b) q2 hv2 r2 (fun p hp => hh p (List.mem_append_right _ hp)) (fun k hk' => hk k (by rw [keys_append]; exact List.mem_append_right _ hk') (fun e => hn12 _ hb' _ hk' e.symm))]
                exact fun c ad2 hn => ⟨c, hn, fun _ _ => rfl⟩
              | idx i => exact absurd hs2 (by simp [VStep])
      | snd =>
        obtain ⟨c1, c2, h1, h2, e1, e2, r1, r2⟩ := hr
        subst e1; subst e2
        have hl := r1.len
        rw [keys_append] at hnd
        obtain ⟨hn1, hn2, hn12⟩ := List.nodup_append.1 hnd
        obtain ⟨cs', ad', A, g1, B, n1, n2, n3, n4, n5⟩ := ih (ad := ad.map fun p => (p.1, p.2 + sz a)) hv r2 (fun p hp => hh p (List.mem_append_right _ hp)) hn2
        have et : ∀ c2 : List Value, (c1 ++ c2).take (sz a) = c1 := by intro c2; rw [← hl]; simp
        have ed : ∀ c2 : List Value, (c1 ++ c2).drop (sz a) = c2 := by intro c2; rw [← hl]; simp
        refine ⟨cs', ad', h1 ++ A, g1, B, ?_, by rw [n2]; simp, n3, ?_, ?_⟩
        · simpa [nav, navStep, ed] using n1
        · intro h0
          obtain ⟨pre, post, d1, d2, d3, d4, d5⟩ := n4 (by simpa [lev] using h0)
          refine ⟨c1 ++ pre, post, by rw [d1]; simp, ?_, ?_, ?_, ?_⟩
          · rw [d2]; cases ad <;> simp [hl, Nat.add_assoc]
          · intro w' Im' g mm y c2' h2' r
            exact ⟨c1, pre ++ c2' ++ post, h1, A ++ h2' ++ B, by simp, by simp, r1.grow g, d3 w' Im' g mm y c2' h2' r⟩
          · intro w' Im' g y c2' h2' r
            exact ⟨c1, pre ++ c2' ++ post, h1, A ++ h2' ++ B, by simp, by simp, r1.grow g, d4 w' Im' g y c2' h2' r⟩
          · intro w' c2' hc2 hk y q2 hv2 hc
            have hcl : c2'.length = cs'.length := hc2.trans n3.len.symm
            have ea : c1 ++ pre ++ c2' ++ post = c1 ++ (pre ++ c2' ++ post) := by simp
            rw [ea]
            cases q2 with
            | nil => 
              refine ⟨fun _ => trivial, fun c ad2 hn => ?_⟩
              have hn2 : ad = ad2 := by simp [nav] at hn; exact hn.2
              subst hn2
              exact ⟨_, rfl, fun ⟨t', ht'⟩ => by simp [ctype] at ht'⟩
            | cons s2 q2 =>
              obtain ⟨hs2, hv2⟩ := hv2
              cases s2 with
              | fst =>
                refine ⟨fun hf => ⟨trivial, hv2⟩, ?_⟩
                show Stays _ _ _ _ (nav w a ((c1 ++ c2).take (sz a)) _ q2) (nav w' a ((c1 ++ (pre ++ c2' ++ post)).take (sz a)) _ q2)
                rw [et, et, nav_frame (t := a) q2 hv2 r1 (fun p hp => hh p (List.mem_append_left _ hp)) (fun k hk' => hk k (by rw [keys_append]; exact List.mem_append_left _ hk'))]
                exact fun c ad2 hn => ⟨c, hn, fun _ _ => rfl⟩
              | snd =>
                obtain ⟨u1, u2⟩ := d5 w' c2' hc2 (fun k hk' => hk k (by rw [keys_append]; exact List.mem_append_right _ hk')) y q2 hv2 hc
                refine ⟨fun hf => ⟨trivial, u1 hf⟩, ?_⟩
                show Stays _ _ _ _ (nav w b ((c1 ++ c2).drop (sz a)) _ q2) (nav w' b ((c1 ++ (pre ++ c2' ++ post)).drop (sz a)) _ q2)
                rw [ed, ed]; exact u2
              | idx i => exact absurd hs2 (by simp [VStep])
        · intro h0
          obtain ⟨A1, A2, b', c, e, pre, post, d0, d1, d2, d3, d4⟩ := n5 (by simpa [lev] using h0)
          have hb' : b' ∈ keys h2 := by rw [n2, d0]; simp [keys]
          refine ⟨h1 ++ A1, A2, b', c, e, pre, post, by rw [d0]; simp, d1, d2, ?_, ?_⟩
          · intro w' Im' g y c2' h2' r
            exact ⟨c1, c2, h1, _, rfl, by simp, r1.grow g, d3 w' Im' g y c2' h2' r⟩
          · intro w' c2' hc2 hb hk y q2 hv2 hc
            have hcl : c2'.length = cs'.length := hc2.trans n3.len.symm
            cases q2 with
            | nil => exact ⟨trivial, fun c ad2 hn => ⟨_, hn, fun ⟨t', ht'⟩ => by simp [ctype] at ht'⟩⟩
            | cons s2 q2 =>
              obtain ⟨hs2, hv2⟩ := hv2
              cases s2 with
              | fst =>
                refine ⟨⟨trivial, hv2⟩, ?_⟩
                show Stays _ _ _ _ (nav w a ((c1 ++ c2).take (sz a)) _ q2) (nav w' a ((c1 ++ c2).take (sz a)) _ q2)
                rw [et, nav_frame (t := a) q2 hv2 r1 (fun p hp => hh p (List.mem_append_left _ hp)) (fun k hk' => hk k (by rw [keys_append]; exact List.mem_append_left _ hk') (fun e => hn12 _ hk' _ hb' e))]
                exact fun c ad2 hn => ⟨c, hn, fun _ _ => rfl⟩
              | snd =>
                obtain ⟨u1, u2⟩ := d4 w' c2' hc2 hb (fun k hk' => hk k (by rw [keys_append]; exact List.mem_append_right _ hk')) y q2 hv2 hc
                refine ⟨⟨trivial, u1⟩, ?_⟩
                show Stays _ _ _ _ (nav w b ((c1 ++ c2).drop (sz a)) _ q2) (nav w' b ((c1 ++ c2).drop (sz a)) _ q2)
                rw [ed]; exact u2
              | idx i => exact absurd hs2 (by simp [VStep])
      | idx i => exact absurd hs (by simp [VStep])
    | slc t =>
      cases s with
      | fst => exact absurd hs (by simp [VStep])
      | snd => exact absurd hs (by simp [VStep])
      | idx i =>
        obtain ⟨hi, me, rfl⟩ := hs
        have hi : i < List.length x := hi
        obtain ⟨b, o, c, e, cap, h', e1, e2, e3, e4, e5, r1⟩ := Rep.own_cons hr (by intro h0; rw [h0] at hi; simp at hi)
        subst e1; subst e2
        obtain ⟨pre0, c0, post0, hp, g0, hq, d1, d2, d3, d4, d5, d6⟩ := RepL.nth (n := sz t) (dflt t) (fun _ _ _ r => r.len) i hi r1
        subst d2
        have hhb : w.heap[b]? = some (.cells c e (0, 0)) := hh (b, (c, e)) (List.mem_cons_self ..)
        have hl0 : c0.length = sz t := d4.len
        have hv' : Valid t (List.getD x i (dflt t)) me q := hv
        rw [keys_cons, keys_append, keys_append] at hnd
        obtain ⟨hnb, hnd⟩ := List.nodup_cons.1 hnd
        obtain ⟨hn1, hn2, hn12⟩ := List.nodup_append.1 hnd
        obtain ⟨hn3, hn4, hn34⟩ := List.nodup_append.1 hn1
        have hg0 : ∀ k ∈ keys g0, k ≠ b := by intro k hk e; subst e; exact hnb (List.mem_append_left _ (List.mem_append_right _ hk))
        obtain ⟨cs', ad', A, g1, B, n1, n2, n3, n4, n5⟩ := ih (ad := some (b, o + i * sz t)) hv' d4 (fun p hp' => hh p (List.mem_cons_of_mem _ (List.mem_append_left _ (List.mem_append_right _ hp')))) hn4
        have eo : o ≤ c.size := by omega
        have et : (c.toList.drop (o + i * sz t)).take (sz t) = c0 := by
          rw [← List.drop_drop, d1, ← d3]; simp [← hl0]
        have ec : c.toList = c.toList.take o ++ (pre0 ++ c0 ++ post0) := by rw [← d1]; simp
        have el : (c.toList.take o).length = o := by rw [List.length_take]; simp; omega
        have hcell : ∀ j, j ≠ i → j < List.length x → ∃ cj gj, Rep w Im t me (List.getD x j (dflt t)) cj gj ∧ (∀ p ∈ gj, p ∈ hp ∨ p ∈ hq) ∧ (∀ c' : List Value, c'.length = sz t → ((pre0 ++ c' ++ post0).drop (j * sz t)).take (sz t) = cj) := d6
        generalize hP : c.toList.take o = P at ec el
        have hls : ∀ y : den (ctype (.slc t) (.idx i :: q)), List.length (α := den t) (cput (.slc t) x (.idx i :: q) y) = List.length (α := den t) x := fun y => List.length_set
        have hget : ∀ (y : den (ctype (.slc t) (.idx i :: q))) (j : Nat), vstep (.slc t) (cput (.slc t) x (.idx i :: q) y) (.idx j) = if j = i then cput t (List.getD x i (dflt t)) q y else List.getD x j (dflt t) := by
          intro y j
          exact getD_set (α := den t) x i j (dflt t) _ hi
        refine ⟨cs', ad', (b, (c, e)) :: hp ++ A, g1, B ++ hq, ?_, by rw [n2]; simp, n3, ?_, ?_⟩
        · show (match navStep w (.slc t) [.slice (some ⟨b, o, none⟩) (List.length x) cap] ad (.idx i) with | some p => nav w t p.1 p.2 q | none => none) = _
          simp only [navStep, hhb, et]
          exact n1
        · intro h0; simp [lev] at h0
        · intro _
          by_cases hq0 : lev q = 0
          · obtain ⟨pre, post, p1, p2, p3, p4, p5⟩ := n4 hq0
            have ec2 : c.toList = P ++ pre0 ++ pre ++ cs' ++ (post ++ post0) := by rw [ec, p1]; simp
            refine ⟨[], hp ++ A, b, c, e, P ++ pre0 ++ pre, post ++ post0, by simp, by rw [ec2], ?_, ?_, ?_⟩
            · rw [p2]; simp; omega
            · intro w' Im' g y c2' h2' r
              have r' := p4 w' Im' g y c2' h2' r
              have hlen := r'.len
              have rr := d5 (fun x cs h => Rep w' Im' t me x cs h) (fun _ _ _ r => r.grow g) _ _ _ r'
              have hs1 : c.size = (P ++ pre0 ++ pre ++ cs' ++ (post ++ post0)).length := by rw [← ec2]; simp
              refine .inr ⟨b, o, (P ++ pre0 ++ pre ++ c2' ++ (post ++ post0)).toArray, e, cap, hp ++ (A ++ h2' ++ B) ++ hq, ?_, by simp, ?_, e4, ?_, ?_⟩
              · exact congrArg (fun n => [Value.slice (some ⟨b, o, none⟩) n cap]) (hls y).symm
              · exact Nat.le_trans (Nat.le_of_eq (hls y)) e3
              · rw [hs1] at e5
                rw [p1] at hl0
                simp at e5 hlen hl0 ⊢
                omega
              · have ed : ((P ++ pre0 ++ pre ++ c2' ++ (post ++ post0)).toArray.toList).drop o = pre0 ++ (pre ++ c2' ++ post) ++ post0 := by
                  rw [← el]; simp
                rw [ed]; exact rr
            · intro w' c2' hc2 hb hk y q2 hv2 hc
              have hcl : c2'.length = cs'.length := hc2.trans n3.len.symm
              have hn' : (pre ++ c2' ++ post).length = sz t := by
                rw [p1] at hl0; rw [← hl0]; simp [hcl]
              cases q2 with
              | nil => exact ⟨trivial, fun c ad2 hn => ⟨c, hn, fun _ _ => rfl⟩⟩
              | cons s2 q2 =>
                obtain ⟨hs2, hv2⟩ := hv2
                cases s2 with
                | fst => exact absurd hs2 (by simp [VStep])
                | snd => exact absurd hs2 (by simp [VStep])
                | idx j =>
                  obtain ⟨hj, _⟩ := hs2
                  have hj : j < List.length x := hj
                  have hc' : flat (ctype t q) = true ∨ lev q2 = 0 := hc.imp id (fun h => by simp [lev] at h; omega)
                  have ed : ((P ++ pre0 ++ pre ++ c2' ++ (post ++ post0)).toArray.toList).drop (o + j * sz t) = (pre0 ++ (pre ++ c2' ++ post) ++ post0).drop (j * sz t) := by
                    rw [← List.drop_drop, ← el]; simp
                  by_cases hji : j = i
                  · subst hji
                    obtain ⟨u1, u2⟩ := p5 w' c2' hc2 (fun k hk' => hk k (by simp only [keys_cons, keys_append, List.mem_cons, List.mem_append]; exact .inr (.inl (.inr hk'))) (hg0 k hk')) y q2 hv2 hc'
                    refine ⟨⟨⟨Nat.lt_of_lt_of_le hj (Nat.le_of_eq (hls y).symm), me, rfl⟩, ?_⟩, ?_⟩
                    · show Valid t (vstep (.slc t) (cput (.slc t) x (.idx j :: q) y) (.idx j)) me q2
                      rw [hget, if_pos rfl]
                      rcases hc' with hf | h0
                      · exact u1 hf
                      · exact valid0 q2 h0 hv2
                    · show Stays _ _ _ _ (match navStep w (.slc t) [.slice (some ⟨b, o, none⟩) (List.length x) cap] ad (.idx j) with | some p => nav w t p.1 p.2 q2 | none => none)
                        (match navStep w' (.slc t) [.slice (some ⟨b, o, none⟩) (List.length x) cap] ad (.idx j) with | some p => nav w' t p.1 p.2 q2 | none => none)
                      have et' : (List.drop (j * sz t) (pre0 ++ (pre ++ c2' ++ post) ++ post0)).take (sz t) = pre ++ c2' ++ post := by
                        generalize pre ++ c2' ++ post = M at hn'
                        rw [← d3, ← hn']; simp
                      simp only [navStep, hhb, hb, et, ed, et']
                      intro cc ad2 hn
                      obtain ⟨c'', v1, v2⟩ := u2 cc ad2 hn
                      exact ⟨c'', v1, fun ht hs => v2 ht (hs.imp id (fun h => by simp [lev, hq0] at h))⟩
                  · obtain ⟨cj, gj, f1, f2, f3⟩ := hcell j hji hj
                    have hkj : ∀ k ∈ keys gj, k ∈ keys hp ∨ k ∈ keys hq := by
                      intro k hk'; obtain ⟨p, hp', e⟩ := keys_mem.1 hk'
                      exact (f2 p hp').imp (fun h => keys_mem.2 ⟨p, h, e⟩) (fun h => keys_mem.2 ⟨p, h, e⟩)
                    have hkb : ∀ k ∈ keys gj, k ≠ b := by
                      intro k hk' e; subst e
                      rcases hkj _ hk' with h | h
                      · exact hnb (List.mem_append_left _ (List.mem_append_left _ h))
                      · exact hnb (List.mem_append_right _ h)
                    refine ⟨⟨⟨Nat.lt_of_lt_of_le hj (Nat.le_of_eq (hls y).symm), me, rfl⟩, ?_⟩, ?_⟩
                    · show Valid t (vstep (.slc t) (cput (.slc t) x (.idx i :: q) y) (.idx j)) me q2
                      rw [hget, if_neg hji]; exact hv2
                    · show Stays _ _ _ _ (match navStep w (.slc t) [.slice (some ⟨b, o, none⟩) (List.length x) cap] ad (.idx j) with | some p => nav w t p.1 p.2 q2 | none => none)
                        (match navStep w' (.slc t) [.slice (some ⟨b, o, none⟩) (List.length x) cap] ad (.idx j) with | some p => nav w' t p.1 p.2 q2 | none => none)
                      have et0 : (c.toList.drop (o + j * sz t)).take (sz t) = cj := by
                        rw [← List.drop_drop, d1]; exact f3 c0 hl0
                      simp only [navStep, hhb, hb, et0, ed, f3 _ hn']
                      rw [nav_frame q2 (t := t) hv2 f1 (fun p hp' => hh p (List.mem_cons_of_mem _ ((f2 p hp').elim (fun h => List.mem_append_left _ (List.mem_append_left _ h)) (fun h => List.mem_append_right _ h))))
                        (fun k hk' => hk k (by simp only [keys_cons, keys_append, List.mem_cons, List.mem_append]; exact .inr ((hkj k hk').elim (fun h => .inl (.inl h)) .inr)) (hkb k hk'))]
                      exact fun c ad2 hn => ⟨c, hn, fun _ _ => rfl⟩
          · obtain ⟨A1, A2, b', c', e', pre, post, p0, p1, p2, p3, p4⟩ := n5 hq0
            have hb' : b' ∈ keys g0 := by rw [n2, p0]; simp [keys]
            refine ⟨(b, (c, e)) :: hp ++ A1, A2, b', c', e', pre, post, by rw [p0]; simp, p1, p2, ?_, ?_⟩
            · intro w' Im' g y c2' h2' r
              have r' := p3 w' Im' g y c2' h2' r
              have rr := d5 (fun x cs h => Rep w' Im' t me x cs h) (fun _ _ _ r => r.grow g) _ _ _ r'
              refine .inr ⟨b, o, c, e, cap, hp ++ (A1 ++ (b', ((pre ++ c2' ++ post).toArray, e')) :: A2 ++ h2' ++ B) ++ hq, ?_, by simp, ?_, e4, e5, ?_⟩
              · exact congrArg (fun n => [Value.slice (some ⟨b, o, none⟩) n cap]) (hls y).symm
              · exact Nat.le_trans (Nat.le_of_eq (hls y)) e3
              · rw [d1]; exact rr
            · intro w' c2' hc2 hb hk y q2 hv2 hc
              have hcl : c2'.length = cs'.length := hc2.trans n3.len.symm
              cases q2 with
              | nil => exact ⟨trivial, fun c ad2 hn => ⟨c, hn, fun _ _ => rfl⟩⟩
              | cons s2 q2 =>
                obtain ⟨hs2, hv2⟩ := hv2
                cases s2 with
                | fst => exact absurd hs2 (by simp [VStep])
                | snd => exact absurd hs2 (by simp [VStep])
                | idx j =>
                  obtain ⟨hj, _⟩ := hs2
                  have hj : j < List.length x := hj
                  have hc' : flat (ctype t q) = true ∨ lev q2 ≤ lev q := hc.imp id (fun h => by simp [lev] at h; omega)
                  have hbb : w'.heap[b]? = some (.cells c e (0, 0)) := (hk b (by simp [keys]) (fun e => hg0 _ hb' e.symm)).trans hhb
                  by_cases hji : j = i
                  · subst hji
                    obtain ⟨u1, u2⟩ := p4 w' c2' hc2 hb (fun k hk' hne => hk k (by simp only [keys_cons, keys_append, List.mem_cons, List.mem_append]; exact .inr (.inl (.inr hk'))) hne) y q2 hv2 hc'
                    refine ⟨⟨⟨Nat.lt_of_lt_of_le hj (Nat.le_of_eq (hls y).symm), me, rfl⟩, ?_⟩, ?_⟩
                    · show Valid t (vstep (.slc t) (cput (.slc t) x (.idx j :: q) y) (.idx j)) me q2
                      rw [hget, if_pos rfl]; exact u1
                    · show Stays _ _ _ _ (match navStep w (.slc t) [.slice (some ⟨b, o, none⟩) (List.length x) cap] ad (.idx j) with | some p => nav w t p.1 p.2 q2 | none => none)
                        (match navStep w' (.slc t) [.slice (some ⟨b, o, none⟩) (List.length x) cap] ad (.idx j) with | some p => nav w' t p.1 p.2 q2 | none => none)
                      simp only [navStep, hhb, hbb, et]
                      intro cc ad2 hn
                      obtain ⟨c'', v1, v2⟩ := u2 cc ad2 hn
                      exact ⟨c'', v1, fun ht hs => v2 ht (hs.imp id (fun h => by simp [lev] at h; omega))⟩
                  · obtain ⟨cj, gj, f1, f2, f3⟩ := hcell j hji hj
                    have hkj : ∀ k ∈ keys gj, k ∈ keys hp ∨ k ∈ keys hq := by
                      intro k hk'; obtain ⟨p, hp', e⟩ := keys_mem.1 hk'
                      exact (f2 p hp').imp (fun h => keys_mem.2 ⟨p, h, e⟩) (fun h => keys_mem.2 ⟨p, h, e⟩)
                    have hkb : ∀ k ∈ keys gj, k ≠ b' := by
                      intro k hk' e; subst e
                      rcases hkj _ hk' with h | h
                      · exact hn34 _ h _ hb' rfl
                      · exact hn12 _ (List.mem_append_right _ hb') _ h rfl
                    refine ⟨⟨⟨Nat.lt_of_lt_of_le hj (Nat.le_of_eq (hls y).symm), me, rfl⟩, ?_⟩, ?_⟩
                    · show Valid t (vstep (.slc t) (cput (.slc t) x (.idx i :: q) y) (.idx j)) me q2
                      rw [hget, if_neg hji]; exact hv2
                    · show Stays _ _ _ _ (match navStep w (.slc t) [.slice (some ⟨b, o, none⟩) (List.length x) cap] ad (.idx j) with | some p => nav w t p.1 p.2 q2 | none => none)
                        (match navStep w' (.slc t) [.slice (some ⟨b, o, none⟩) (List.length x) cap] ad (.idx j) with | some p => nav w' t p.1 p.2 q2 | none => none)
                      have et0 : (c.toList.drop (o + j * sz t)).take (sz t) = cj := by
                        rw [← List.drop_drop, d1]; exact f3 c0 hl0
                      simp only [navStep, hhb, hbb, et0]
                      rw [nav_frame q2 (t := t) hv2 f1 (fun p hp' => hh p (List.mem_cons_of_mem _ ((f2 p hp').elim (fun h => List.mem_append_left _ (List.mem_append_left _ h)) (fun h => List.mem_append_right _ h))))
                        (fun k hk' => hk k (by simp only [keys_cons, keys_append, List.mem_cons, List.mem_append]; exact .inr ((hkj k hk').elim (fun h => .inl (.inl h)) .inr)) (hkb k hk'))]
                      exact fun c ad2 hn => ⟨c, hn, fun _ _ => rfl⟩
    | int k => cases s <;> exact absurd hs (by simp [VStep])
    | bool => cases s <;> exact absurd hs (by simp [VStep])
    | str => cases s <;> exact absurd hs (by simp [VStep])
    | raw => cases s <;> exact absurd hs (by simp [VStep])
    | unit => cases s <;> exact absurd hs (by simp [VStep])
end Go.Proofs.Ytlgbhaigpecdoaa.V
