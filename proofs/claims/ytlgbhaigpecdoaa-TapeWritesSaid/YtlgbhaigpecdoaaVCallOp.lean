/- A call, as an operation. -/
import Derived.Test.YtlgbhaigpecdoaaVCall
set_option linter.unusedVariables false
set_option linter.unusedSimpArgs false
namespace Go.Proofs.Ytlgbhaigpecdoaa.V
open Go

def FnOk (P : Program) (f : FuncId) : Prop := ∃ fn, P.funcs[f]? = some fn ∧ (fn.name == "runtime.NumGoroutine") = false ∧ fn.body.isNone = false
section
variable {P : Program} {G : Gl} {I0 : Nat → Prop} {st st0 st1 : St} {a : Act} {vs : Array Value} {w w' : World} {Im Im0 Im' : Nat → Prop} {R R0 R' : Real} {hand hand' : Frag} {o : Oper} {T : Type} {r0 : T} {E : Env}
theorem untup_ok : ∀ {s : SV} {us : List Value}, ends s = true → SVX w Im R s true us → ∃ l : List (SV × Value), l.map (·.1) = untup s ∧ l.map (·.2) = us ∧ ∀ p ∈ l, CV w Im R p.1 p.2
  | .tnil, us, _, h => ⟨[], rfl, h.2.symm, fun p hp => by simp at hp⟩
  | .tcons x s, us, he, ⟨_, v, vs', e, h1, h2⟩ => by
    obtain ⟨l, l1, l2, l3⟩ := untup_ok (s := s) he h2
    refine ⟨(x, v) :: l, by simp [untup, l1], by simp [l2, e], fun p hp => ?_⟩
    rcases List.mem_cons.1 hp with hp | hp
    · subst hp
      intro n1 _ _
      rcases h1 with h1 | h1
      · exact absurd h1 n1
      · exact h1
    · exact l3 p hp
theorem single_ok : ∀ {rs : List (Ty × Md)} {x : ResT rs} {s : SV} {us : List Value} {h : Frag} {b k : Nat} {st : St}, ResOk w Im rs x us h → s = (gots b rs x k st).1 → SVX w' Im' R s true us → SVV w' Im' R (single rs s) (valOf us)
  | [], x, s, us, h, b, k, st, hr, hs, hx => by
    have e : us = [] := hr.1
    subst e; subst hs
    exact .inr (.inl ⟨#[], rfl, hx, .inl rfl⟩)
  | [(t, m)], x, s, us, h, b, k, st, hr, hs, hx => by
    obtain ⟨u, us', cs, h1, h2, e1, e2, e3, r1, r2⟩ := hr
    have e : us' = [] := r2.1
    subst e; subst e1; subst hs
    obtain ⟨_, v, vs', e4, h5, _⟩ := hx
    cases e4
    exact h5.elim .inl (fun h => .inr (.inr h))
  | (t, m) :: (t2, m2) :: rs, x, s, us, h, b, k, st, hr, hs, hx => by
    obtain ⟨u, us', cs, h1, h2, e1, e2, e3, r1, r2⟩ := hr
    obtain ⟨u2, us2, cs2, h3, h4, f1, f2, f3, r3, r4⟩ := r2
    subst f1; subst e1; subst hs
    exact .inr (.inl ⟨(u :: u2 :: us2).toArray, rfl, hx, .inr ⟨_, _, rfl⟩⟩)
theorem call_ok {c : Cx} (hT : ∀ p ∈ c.T, SmOk P p.1 p.2 ∧ FnOk P p.1) : CallOk P c G I0 := by
  intro T K r0 st a w o Im R Q cl f g caps hd hI h ho hc hf hend hk
  have hfv := h.ev f
  rw [hf] at hfv
  obtain ⟨capsV, e1, hcx⟩ := hfv.cell (by simp) (by simp) (by simp) rfl
  simp at e1
  obtain ⟨lc, l1, l2, l3⟩ := untup_ok hend hcx
  unfold callS at hk
  split at hk
  · rename_i sm hfind
    obtain ⟨hSm, fn, hfn, hname, hbody⟩ := hT (g, sm) (Tab.find_mem hfind)
    have hl : cl.args.toList.map st.ev ++ untup caps = ((cl.args.toList.map fun x => (st.ev x, a.eval x)) ++ lc).map (·.1) := by
      rw [List.map_append, l1, List.map_map]; rfl
    rw [hl] at hk
    have hcv : ∀ p ∈ (cl.args.toList.map fun x => (st.ev x, a.eval x)) ++ lc, CV w Im R p.1 p.2 := by
      intro p hp
      rcases List.mem_append.1 hp with hp | hp
      · obtain ⟨x, _, rfl⟩ := List.mem_map.1 hp
        exact CV.of (h.ev x)
      · exact l3 p hp
    obtain ⟨x, io, lo, mv, st', Im', R', h1, H, k1, k2, k3, k4, k5, k6, k7, k8⟩ := args_some (h0 := h) hk h hcv (fun p hp => (hcv p hp).shallow)
    split at k1
    · rename_i hchk
      simp only [Bool.and_eq_true, List.all_eq_true, Bool.not_eq_true'] at hchk
      obtain ⟨⟨hdis, hdup⟩, hro⟩ := hchk
      obtain ⟨r, hr, k1⟩ := Option.bind_eq_some_iff.1 k1
      have notlo : ∀ j, j ∈ io ∨ j ∈ mv → j ∉ lo := fun j hj hm => by
        have := hdis j (List.mem_append.2 hj)
        rw [List.contains_iff_mem.2 hm] at this; cases this
      have harg := k8 (With Im' R' lo) (fun k hk => .inl hk) (fun k hk => by
        rcases hk with hk | ⟨r, b, rb, q1, q2, q3⟩
        · exact .inl (k3.im k hk)
        · exact .inr ⟨r, b, rb, q1, by rw [k4 r (fun hm => notlo r (.inr hm) q1)]; exact q2, q3⟩)
      have k2' : Inv G st' a.tmps w Im' R' h1 := k2
      have kH : ∀ k, k ∈ keys H → k ∈ keys h1 ∨ ∃ r ∈ io, k ∈ keys (own R' [] (r + 1)) := fun k hk => by
        have q : List.Perm (keys H) (keys (h1 ++ ioFrag R' io)) := k6.map _
        have := q.mem_iff.1 hk
        rw [keys_append, List.mem_append, mem_ioFrag] at this
        exact this
      have hImlt : ∀ k, With Im' R' lo k → k < w.heap.size := fun k hk => by
        rcases hk with hk | ⟨r, b, rb, q1, q2, q3⟩
        · exact k2'.sep.imlt k hk
        · exact k2'.sep.lt (i := r + 1) (by rw [own_at q2]; exact q3)
      have hdisH : ∀ k ∈ keys H, ¬ With Im' R' lo k := fun k hk hw => by
        have hsome : ∃ i, k ∈ keys (own R' h1 i) ∧ ∀ j, i = j + 1 → j ∉ lo := by
          rcases kH k hk with hk | ⟨r, hr, hk⟩
          · exact ⟨0, hk, fun j hj => by cases hj⟩
          · exact ⟨r + 1, hk, fun j hj => by cases hj; exact notlo r (.inl hr)⟩
        obtain ⟨i, hi, hil⟩ := hsome
        rcases hw with hw | ⟨r, b, rb, q1, q2, q3⟩
        · exact k2'.sep.im i k hi hw
        · exact k2'.sep.sep i (r + 1) (fun e => hil r e q1) k hi (by rw [own_at q2]; exact q3)
      have hnodH : (keys H).Nodup := by
        have q : List.Perm (keys H) (keys (h1 ++ ioFrag R' io)) := k6.map _
        rw [q.nodup_iff, keys_append]
        refine List.nodup_append.2 ⟨k2'.sep.nod 0, ioFrag_nodup k2' hdup, fun y hy z hz e => ?_⟩
        subst e
        obtain ⟨s, _, h2⟩ := mem_ioFrag.1 hz
        exact k2'.sep.sep 0 (s + 1) (by simp) y hy h2
      have hheapH : HeapOK w H := fun p hp => by
        have hp := k6.mem_iff.1 hp
        have : ∀ {l : List Nat}, p ∈ ioFrag R' l → ∃ i, p ∈ own R' h1 (i + 1) := by
          intro l
          induction l with
          | nil => intro h; simp [ioFrag] at h
          | cons r l ih =>
            intro h
            rcases List.mem_append.1 h with h | h
            · exact ⟨r, h⟩
            · exact ih h
        rcases List.mem_append.1 hp with hp | hp
        · exact k2'.sep.heap 0 p hp
        · obtain ⟨i, hi⟩ := this hp; exact k2'.sep.heap (i + 1) p hi
      have hcalls := hSm w (With Im' R' lo) _ x H r hImlt harg hheapH hnodH hdisH hr
      have hrun : (execOp a.eval o).run P w = .ok (.enter g (((cl.args.toList.map fun x => (st.ev x, a.eval x)) ++ lc).map (·.2)).toArray) w := by
        have hargs : (((cl.args.toList.map fun x => (st.ev x, a.eval x)) ++ lc).map (·.2)).toArray = cl.args.map a.eval ++ capsV := by
          apply Array.ext'
          rw [List.map_append, l2, List.map_map]
          simp [Function.comp_def]
        rw [hargs]
        have n1 : ¬ fn.name = "runtime.NumGoroutine" := by simpa using hname
        have n2 : ¬ fn.body = none := by intro e; rw [e] at hbody; cases hbody
        simp [execOp, ho, resolve, hc, e1, Deferred.ofValue, invoke, callFunc, hfn, n1, n2]
      unfold Oper.wp
      rw [hrun, Oper.upon_enter]
      refine hcalls.mono fun e w2 hq => ?_
      obtain ⟨us, ImN, g1, g2, rfl, q1, q2, q3, q4, q5, q6, q7, q8⟩ := hq
      have hconv : (∀ k, ImN k → (Im' k ∨ (ImN k ∧ (w.heap.size ≤ k ∨ k ∈ keys H)))) ∨ ((sm.rs.all fun p => V.noRo p.1 p.2) = true ∧ psNoRo sm.ps = true) := by
        simp only [Bool.or_eq_true, Bool.and_eq_true] at hro
        rcases hro with hlo | hro
        · refine .inl fun k hk => ?_
          rcases (q7 k hk).2 with h3 | h3
          · rcases h3 with h3 | ⟨r, b, rb, hr, _⟩
            · exact .inl h3
            · rw [List.isEmpty_iff.1 hlo] at hr; simp at hr
          · exact .inr ⟨hk, h3⟩
        · exact .inr hro
      obtain ⟨R2, hi2⟩ := k2'.called k7 hdup k6 (Imc := With Im' R' lo) (fun k hk => .inl hk) hdisH q3 q4 q5 (fun k hk => (q7 k hk).1) q8 (q2.conv (hconv.imp id (·.2)))
      have q1' := q1.conv (Im2 := fun k => Im' k ∨ (ImN k ∧ (w.heap.size ≤ k ∨ k ∈ keys H))) (hconv.imp id (·.1))
      obtain ⟨R3, hi3, hs3, _, _⟩ := gots_ok (base := o.dst.getD 0 * 16) (k := 0) (hand := []) hi2 q1'
      exact ⟨_, k1, by rw [put_defers]; exact hd, _, R3, fun b hb => .inl (k3.im b (hI b hb)), hi3.put o.dst (single_ok q1' rfl hs3)⟩
    · cases k1
  · cases hk
end
end Go.Proofs.Ytlgbhaigpecdoaa.V
