/- Operations that look into the memory: elements, fields, parts, and whole values. -/
import Derived.Test.YtlgbhaigpecdoaaVReads
set_option linter.unusedVariables false
set_option linter.unusedSimpArgs false
namespace Go.Proofs.Ytlgbhaigpecdoaa.V
open Go

section
variable {P : Program} {G : Gl} {st : St} {vs : Array Value} {w : World} {Im : Nat → Prop} {R : Real} {hand : Frag} {T : Type} {r0 : T} {E : Env}
theorem add_at (b o n : Nat) : (⟨b, o, none⟩ : Addr).add n = ⟨b, o + n, none⟩ := Addr.add_mid b o n
theorem run_sizeOf_ok {tid : TypeId} {te : TE} {i : TypeInfo} (h : InfoOk P tid te i) (w : World) : (sizeOf tid).run P w = .ok (sz te.ty) w := by
  simp [sizeOf, typeInfo, h.info, h.size]
theorem run_index_ok {tid e : TypeId} {ee : TE} {i : TypeInfo} (hu : P.underlying tid = some (.slice e)) (hi : InfoOk P e ee i) (b o len cap : Nat) (k : IntKind) (n : Int) (h0 : 0 ≤ n) (h1 : n < len) :
    (Instr.indexAt tid (.slice (some ⟨b, o, none⟩) len cap) (.int k n)).run P w = .ok (.pointer (some ⟨b, o + n.toNat * sz ee.ty, none⟩)) w := by
  simp [Instr.indexAt, asIntOf, run_underlying hu, h0, h1, run_sizeOf_ok hi, add_at]
/-- An element's address. -/
theorem elem_some (hE : EnvOk P E) (h : Inv G st vs w Im R hand) {tid : TypeId} {te : TE} (ht : E.get tid = some te) {e : TypeId} (hd : te.d = .slc e) {s : SV} {v : Value} {k : IntKind} {n : Int} {K : SV → Option T}
    (hk : elemS st.boxes te.ty s n K = some r0) (hs : SVV w Im R s v) :
    ∃ s' z, K s' = some r0 ∧ (Instr.indexAt tid v (.int k n)).run P w = .ok z w ∧ SVV w Im R s' z := by
  have hu := (hE tid te ht).2
  unfold UndOk at hu
  rw [hd] at hu
  obtain ⟨hu, ee, hee, hty⟩ := hu
  obtain ⟨⟨i, hi⟩, _⟩ := hE e ee hee
  unfold elemS at hk
  split at hk
  · rename_i t xs
    split at hk
    · rename_i e1
      rw [hty] at e1; injection e1 with e1; subst e1
      split at hk
      · rename_i hb
        obtain ⟨h0, A, cap, e2, hc, hx⟩ := hs.cell (by simp) (by simp) (by simp) rfl
        have hlt : n.toNat < List.length xs := by omega
        obtain ⟨b, o, c, el, fz, rfl, him, hh, hr⟩ := hx (by intro h; rw [h] at hlt; simp at hlt)
        simp at e2; subst e2
        obtain ⟨pre, c0, post, hp, g0, hq, d1, d2, d3, d4, _⟩ := RepL.nth (n := sz ee.ty) (dflt ee.ty) (fun _ _ _ r => r.len) n.toNat hlt hr
        have h4 := d4.ro; subst h4
        refine ⟨_, _, hk, run_index_ok hu hi b o _ cap k n hb.1 hb.2, .ofCell ⟨b, _, c, el, fz, rfl, him, hh, ?_⟩ rfl⟩
        have : (c.toList.drop (o + n.toNat * sz ee.ty)).take (sz ee.ty) = c0 := by
          rw [← List.drop_drop, d1, ← d3, ← d4.len]; simp
        rw [this]; exact d4
      · cases hk
    · cases hk
  · rename_i r q
    split at hk
    · rename_i b hb
      obtain ⟨u, e1, hr⟩ := hs.cell (by simp) (by simp) (by simp) rfl
      simp at e1; subst e1
      obtain ⟨h1, rb, hrr, n2, n3⟩ := h.ref hb hr
      obtain ⟨t', xs, m, c1, c2, n4, hvs, hk⟩ := rowOf_some (r0 := r0) hk n2
      split at hk
      · rename_i e1
        rw [hty] at e1; injection e1 with e1; subst e1
        split at hk
        · rename_i hbd
          obtain ⟨hval, _, ad, hn⟩ := hr b rb hrr
          have hlt : n.toNat < List.length xs := by omega
          obtain ⟨b', o, c, el, cap, h', e5, e6, e7, e8, e9, e10⟩ := Rep.own_cons n4 (by intro h; rw [h] at hlt; simp at hlt)
          simp at e5; subst e5
          have hh : w.heap[b']? = some (.cells c el (0, 0)) := h.heapOK hrr (b', (c, el)) (fragOf_sub _ (n3 _ (by rw [e6]; exact List.mem_cons_self ..)))
          refine ⟨_, _, hk, run_index_ok hu hi b' o _ cap k n hbd.1 hbd.2, .ofCell ⟨_, rfl, fun b2 rb2 hr2 => ?_⟩ rfl⟩
          rw [hrr] at hr2; cases hr2
          refine ⟨(Valid_append q _).2 ⟨hval, ?_, trivial⟩, (c.toList.drop (o + n.toNat * sz ee.ty)).take (sz ee.ty), b', o + n.toNat * sz ee.ty, ?_, rfl⟩
          · exact hvs _ hlt
          · rw [nav_append, hn, c1]; simp [nav, navStep, hh]
        · cases hk
      · cases hk
    · cases hk
  · rename_i r q lo n'
    split at hk
    · rename_i b hb
      obtain ⟨u, e1, u2, hr, hsub⟩ := hs.cell (by simp) (by simp) (by simp) rfl
      simp at e1; subst e1
      obtain ⟨h1, rb, hrr, n2, n3⟩ := h.ref hb hr
      obtain ⟨t', xs, m, c1, c2, n4, hvs, hk⟩ := rowOf_some (r0 := r0) hk n2
      split at hk
      · rename_i e1
        rw [hty] at e1; injection e1 with e1; subst e1
        split at hk
        · rename_i hbd
          obtain ⟨hval, _, ad, hn⟩ := hr b rb hrr
          obtain ⟨t2, A, len, cap, A', cap', f1, f2, f3, f4, f5, f6, f7⟩ := hsub b rb hrr
          rw [c1] at f1; injection f1 with f1; subst f1
          obtain ⟨A2, cap2, g1, g2⟩ := Rep.ownLen n4
          rw [f2] at g1; injection g1 with g1 g3 g4; subst g1; subst g3; subst g4
          have hlt : lo + n.toNat < List.length xs := by omega
          obtain ⟨b', o, c, el, cap3, h', e5, e6, e7, e8, e9, e10⟩ := Rep.own_cons n4 (by intro h; rw [h] at hlt; simp at hlt)
          rw [f2] at e5; simp at e5
          obtain ⟨rfl, rfl⟩ := e5
          have hA := f7 (by omega)
          simp only [Option.map_some, add_at] at hA
          subst hA; subst f3; subst f2
          have hh : w.heap[b']? = some (.cells c el (0, 0)) := h.heapOK hrr (b', (c, el)) (fragOf_sub _ (n3 _ (by rw [e6]; exact List.mem_cons_self ..)))
          refine ⟨_, _, hk, run_index_ok hu hi b' _ _ cap' k n hbd.1 hbd.2, .ofCell ⟨_, rfl, fun b2 rb2 hr2 => ?_⟩ rfl⟩
          rw [hrr] at hr2; cases hr2
          refine ⟨(Valid_append q _).2 ⟨hval, ?_, trivial⟩, (c.toList.drop (o + (lo + n.toNat) * sz ee.ty)).take (sz ee.ty), b', o + (lo + n.toNat) * sz ee.ty, ?_, by rw [Nat.add_mul]; simp [Nat.add_assoc]⟩
          · exact hvs _ hlt
          · rw [nav_append, hn, c1]; simp [nav, navStep, hh]
        · cases hk
      · cases hk
    · cases hk
  · cases hk
end
end Go.Proofs.Ytlgbhaigpecdoaa.V
