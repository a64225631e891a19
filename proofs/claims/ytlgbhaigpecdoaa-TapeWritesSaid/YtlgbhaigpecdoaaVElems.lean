/- Rows that are written out, and appends, as operations. -/
import Derived.Test.YtlgbhaigpecdoaaVBuild
set_option linter.unusedVariables false
set_option linter.unusedSimpArgs false
namespace Go.Proofs.Ytlgbhaigpecdoaa.V
open Go

/-- What a slot's value is, if it is known. -/
def CV (w : World) (Im : Nat → Prop) (R : Real) (s : SV) (v : Value) : Prop :=
  s ≠ .undef → s ≠ .tnil → (∀ a b, s ≠ .tcons a b) → ∃ cs, (if isAgg s = true then v = .agg cs.toArray else cs = [v]) ∧ SVX w Im R s false cs
theorem forget_ne {p : Bool → Nat → Path → Bool} {s : SV} : (forget p s ≠ .undef → s ≠ .undef) ∧ (forget p s ≠ .tnil → s ≠ .tnil) ∧ ((∀ a b, forget p s ≠ .tcons a b) → ∀ a b, s ≠ .tcons a b) := by
  refine ⟨?_, ?_, ?_⟩
  · rintro h rfl; exact h rfl
  · rintro h rfl; exact h rfl
  · rintro h a b rfl; exact h _ _ rfl
section
variable {P : Program} {G : Gl} {I0 : Nat → Prop} {st st1 : St} {a : Act} {vs : Array Value} {w w' : World} {Im Im' : Nat → Prop} {R R' : Real} {hand hand' : Frag} {o : Oper} {T : Type} {K : St → Option T} {r0 : T} {Q : Exit → Act → World → Prop} {E : Env}
theorem CV.of {s : SV} {v : Value} (h : SVV w Im R s v) : CV w Im R s v := fun h1 h2 h3 => h.cells h1 h2 h3
theorem CV.next {p : Bool → Nat → Path → Bool} {s : SV} {v : Value} (h : CV w Im R s v) (hx : ∀ {s : SV} {c : List Value}, SVX w Im R s false c → SVX w' Im' R' (forget p s) false c) : CV w' Im' R' (forget p s) v := fun h1 h2 h3 => by
  obtain ⟨cs, e, hs⟩ := h (forget_ne.1 h1) (forget_ne.2.1 h2) (forget_ne.2.2 h3)
  exact ⟨cs, by rw [isAgg_forget]; exact e, hx hs⟩
theorem CV.shallow {s : SV} {v : Value} (h : CV w Im R s v) : CV w Im R (shallow s) v := h.next fun hx => hx.forget_more _
theorem toC_cv {s : SV} {v : Value} {t : Ty} {wm : Md} {K : den t → Md → St → Option T} (hk : toC st s t wm K = some r0) (h : Inv G st vs w Im R hand) (hs : CV w Im R s v) :
    ∃ cs x m st' Im' R' h1, (if isAgg s = true then v = .agg cs.toArray else cs = [v]) ∧ v.cells.toList = cs ∧ K x m st' = some r0 ∧ Inv G st' vs w Im' R' (hand ++ h1) ∧ Rep w Im' t m x cs h1 ∧ Grow w w Im Im' ∧
      (∀ {s : SV} {c : List Value}, SVX w Im R s false c → SVX w Im' R' (V.shallow s) false c) ∧ (∀ j, j ∉ roots s → R' j = R j) := by
  obtain ⟨n1, n2, n3⟩ := toC_ne hk
  obtain ⟨cs, e, hx⟩ := hs n1 n2 n3
  obtain ⟨x, m, st', Im', R', h1, k1, k2, k3, k4, k5, k6⟩ := toC_some hk h hx
  exact ⟨cs, x, m, st', Im', R', h1, e, cells_of e k3.one, k1, k2, k3, k4, k5, k6⟩
theorem elems_some {t : Ty} {m : Md} : ∀ {l : List (SV × Value)} {st : St} {Im : Nat → Prop} {R : Real} {hand : Frag} {K : List (den t) → St → Option T}, elems t m (l.map (·.1)) st K = some r0 → Inv G st vs w Im R hand → (∀ p ∈ l, CV w Im R (V.shallow p.1) p.2) →
    ∃ xs st' Im' R' h1, K xs st' = some r0 ∧ Inv G st' vs w Im' R' (hand ++ h1) ∧ RepL (fun x cs h => Rep w Im' t m x cs h) xs (l.flatMap fun p => p.2.cells.toList) h1 ∧ Grow w w Im Im' ∧ xs.length = l.length ∧ (∀ p ∈ l, p.2.cells.size = sz t)
  | [], st, Im, R, hand, K, hk, h, _ => ⟨[], st, Im, R, [], hk, by rw [List.append_nil]; exact h, rfl, Grow.refl _ _, rfl, fun p hp => by simp at hp⟩
  | (s, v) :: l, st, Im, R, hand, K, hk, h, hs => by
    simp only [List.map_cons, elems] at hk
    obtain ⟨cs, x, m', st1, Im1, R1, h1, e1, e2, hk, hi, hrep, g1, hsv, _⟩ := toC_cv hk h (hs (s, v) (List.mem_cons_self ..))
    split at hk
    · rename_i hm
      have hrep' : Rep w Im1 t m x cs h1 := by
        exact hrep.same hm
      obtain ⟨xs, st2, Im2, R2, h2, k1, k2, k3, g2, k4, k5⟩ := elems_some (l := l) hk hi (fun p hp => by
        have := (hs p (List.mem_cons_of_mem _ hp)).next hsv
        rw [show V.forget (fun _ _ q => !decide (lev q = 0)) (V.shallow p.1) = V.shallow p.1 from shallow_shallow p.1] at this
        exact this)
      refine ⟨x :: xs, st2, Im2, R2, h1 ++ h2, k1, by rw [← List.append_assoc]; exact k2, ⟨cs, _, h1, h2, ?_, rfl, hrep'.grow g2, k3⟩, g1.trans g2, by simpa using k4, fun p hp => ?_⟩
      · simp only [List.flatMap_cons]; rw [e2]
      · rcases List.mem_cons.1 hp with e | hp
        · subst e; rw [← hrep.len, ← e2]; simp
        · exact k5 p hp
    · cases hk
theorem parts_of {n : Nat} {parts : List (Nat × Operand)} (h : elemsOk n parts = true) (f : Operand → Value) : (parts.map fun p => (p.1, f p.2)) = ((parts.map fun p => f p.2).zipIdx 0).map (fun x => (x.2, x.1)) ∧ parts.length = n := by
  have h : parts.map (·.1) = List.range n := by simpa [elemsOk] using h
  have hl : parts.length = n := by have := congrArg List.length h; simpa using this
  refine ⟨?_, hl⟩
  apply List.ext_getElem?
  intro i
  simp only [List.getElem?_map, List.getElem?_zipIdx, Nat.zero_add]
  by_cases hi : i < parts.length
  · have h1 : parts[i].1 = i := by
      have := congrArg (fun l => l[i]?) h
      simp only [List.getElem?_map, List.getElem?_eq_getElem hi, Option.map_some] at this
      rw [List.getElem?_range (by omega)] at this
      simpa using this
    simp [List.getElem?_eq_getElem hi, h1]
  · simp [List.getElem?_eq_none (Nat.le_of_not_lt hi)]
theorem build_core (hE : EnvOk P E) (hd : a.defers = []) (hI : ∀ b, I0 b → Im b) (h : Inv G st a.tmps w Im R []) {tid : TypeId} {n : Nat} {parts : Array (Nat × Operand)} (ho : o.op = .buildSlice tid n parts) {te ee : TE} (ht : E.get tid = some te) {e : TypeId} (hdd : te.d = .slc e)
    (hee : E.get e = some ee) (hz : ee.z = true) (hn : n * sz ee.ty ≤ 16777216) (hsz : 0 < sz ee.ty) (hp : elemsOk n parts.toList = true) {m : Md} {K2 : List (den ee.ty) → St → Option T}
    (hk : elems ee.ty m (parts.toList.map fun p => st.ev p.2) st K2 = some r0) :
    ∃ xs st' Im' R' w' h' v, K2 xs st' = some r0 ∧ (execOp a.eval o).run P w = .ok (.value v) w' ∧ Inv G st' a.tmps w' Im' R' ([] ++ h') ∧ Rep w' Im' (.slc ee.ty) (.own m) xs [v] h' ∧ Grow w w' Im Im' := by
  have hu := (hE tid te ht).2
  unfold UndOk at hu; rw [hdd] at hu
  obtain ⟨hu, _⟩ := hu
  obtain ⟨⟨i, hi⟩, _⟩ := hE e ee hee
  obtain ⟨z, hz1, hz2⟩ := hi.zero hz
  obtain ⟨q1, q2⟩ := parts_of hp a.eval
  have e0 : (parts.toList.map fun p => st.ev p.2) = (parts.toList.map fun p => (st.ev p.2, a.eval p.2)).map (·.1) := by simp
  rw [e0] at hk
  obtain ⟨xs, st', Im', R', h1, k1, k2, k3, g, k4, k5⟩ := elems_some hk h (fun p hp => by
    obtain ⟨q, _, rfl⟩ := List.mem_map.1 hp
    exact (CV.of (h.ev q.2)).shallow)
  have hvs : (parts.toList.map fun p => (st.ev p.2, a.eval p.2)).flatMap (fun p => p.2.cells.toList) = (parts.toList.map fun p => a.eval p.2).flatMap fun v => v.cells.toList := by
    simp [List.flatMap_map]
  rw [hvs] at k3
  have hlen : xs.length = n := by rw [k4]; simpa using q2
  have hcells : ∀ v ∈ (parts.toList.map fun p => a.eval p.2), v.cells.size = sz ee.ty := fun v hv => by
    obtain ⟨p, hp, rfl⟩ := List.mem_map.1 hv
    exact k5 _ (List.mem_map.2 ⟨p, hp, rfl⟩)
  have hfill : ∀ cells : Array Value, cells.size = n * sz ee.ty → Instr.fill (fun i => some (i * sz ee.ty, sz ee.ty)) cells (parts.map fun (p : Nat × Operand) => (p.1, a.eval p.2)).toList = some ((parts.toList.map fun p => a.eval p.2).flatMap fun v => v.cells.toList).toArray := by
    intro cells hc
    rw [Array.toList_map, q1]
    exact Great.fill_whole hsz _ cells hcells (by rw [hc]; simp [q2])
  have hrun : (execOp a.eval o).run P w = .ok (.value (.slice (some ⟨w.heap.size, 0, none⟩) n n)) (w.alloc (.cells ((parts.toList.map fun p => a.eval p.2).flatMap fun v => v.cells.toList).toArray e)) := by
    unfold execOp
    simp only [ho, Sem.run_bind]
    rw [show (parts.map fun x => match x with | (i, x) => (i, a.eval x)) = parts.map fun (p : Nat × Operand) => (p.1, a.eval p.2) from rfl]
    by_cases h0 : n = 0
    · subst h0
      have hpe : parts = #[] := by
        have : parts.toList = [] := List.length_eq_zero_iff.1 q2
        exact Array.toList_eq_nil_iff.1 this
      subst hpe
      simp [Instr.buildSlice, run_underlying hu, sizeOf, typeInfo, hi.info, Instr.fill, newRow]
      congr 2
      apply Array.ext'
      simp
    · have hpos : ¬ n * i.size = 0 := by
        rw [hi.size]
        have := Nat.mul_pos (Nat.pos_of_ne_zero h0) hsz
        omega
      have hf := hfill ((Array.range (n * sz ee.ty)).map (z.cells[· % z.cells.size]!)) (by simp)
      rw [run_buildSlice w tid e n _ _ i z hu hi.info hz1 (by rw [hi.size]; omega) hpos (by rw [hi.size]; exact hf)]
      rfl
  have hi2 := (k2.alloc ((parts.toList.map fun p => a.eval p.2).flatMap fun v => v.cells.toList).toArray e).perm (hand' := [] ++ ((w.heap.size, (((parts.toList.map fun p => a.eval p.2).flatMap fun v => v.cells.toList).toArray, e)) :: h1)) (by simp)
  have gr : Grow w (w.alloc (.cells ((parts.toList.map fun p => a.eval p.2).flatMap fun v => v.cells.toList).toArray e)) Im' Im' := Grow.alloc (fun b hb => k2.sep.imlt b hb) _
  have hr : Rep (w.alloc (.cells ((parts.toList.map fun p => a.eval p.2).flatMap fun v => v.cells.toList).toArray e)) Im' (.slc ee.ty) (.own m) xs [.slice (some ⟨w.heap.size, 0, none⟩) n n] ((w.heap.size, (((parts.toList.map fun p => a.eval p.2).flatMap fun v => v.cells.toList).toArray, e)) :: h1) :=
    .inr ⟨w.heap.size, 0, _, e, n, h1, by rw [hlen], rfl, by rw [hlen]; exact Nat.le_refl _, by simp only [maxLen]; have := Nat.le_mul_of_pos_right n hsz; omega, by
      have := k3.len (n := sz ee.ty) (fun _ _ _ r => r.len)
      rw [hlen] at this
      rw [Nat.zero_add]; simpa using this, by
      rw [List.drop_zero]
      exact k3.mono fun _ _ _ r => Rep.grow gr r⟩
  exact ⟨xs, st', Im', R', _, _, _, k1, hrun, hi2, hr, g.trans gr⟩
theorem step_buildSlice (hE : EnvOk P E) (hd : a.defers = []) (hI : ∀ b, I0 b → Im b) (h : Inv G st a.tmps w Im R []) {tid : TypeId} {n : Nat} {parts : Array (Nat × Operand)} (ho : o.op = .buildSlice tid n parts) {te ee : TE} (ht : E.get tid = some te) {e : TypeId} (hdd : te.d = .slc e)
    (hee : E.get e = some ee) (hz : ee.z = true) (hn : n * sz ee.ty ≤ 16777216) (hsz : 0 < sz ee.ty) (hp : elemsOk n parts.toList = true) {d : Tmp} (hdst : o.dst = some d) {m : Md}
    (hk : elems ee.ty m (parts.toList.map fun p => st.ev p.2) st (fun xs st => K ((st.lay (d * 16) { mem := none, t := .slc ee.ty, m := .own m, x := xs }).set (some d) (.ref (d * 16) []))) = some r0) : o.wp P a w (Post G I0 K r0) Q := by
  obtain ⟨xs, st', Im', R', w', h', v, k1, k2, k3, k4, k5⟩ := build_core hE hd hI h ho ht hdd hee hz hn hsz hp hk
  have h2 := k3.lay (d * 16) (b := { mem := none, t := .slc ee.ty, m := .own m, x := xs }) (rb := ⟨0, [v], h'⟩) k4 rfl
  rw [← hdst] at k1
  exact wp_to k2 hd (fun b hb => k5.im b (hI b hb)) h2 (ref_ok rfl ⟨_, rfl⟩ R') k1
theorem step_buildCon (hE : EnvOk P E) (hd : a.defers = []) (hI : ∀ b, I0 b → Im b) (h : Inv G st a.tmps w Im R []) {tid : TypeId} {n : Nat} {parts : Array (Nat × Operand)} (ho : o.op = .buildSlice tid n parts) {te ee : TE} (ht : E.get tid = some te) {e : TypeId} (hdd : te.d = .slc e)
    (hee : E.get e = some ee) (hz : ee.z = true) (hn : n * sz ee.ty ≤ 16777216) (hsz : 0 < sz ee.ty) (hp : elemsOk n parts.toList = true) {d : Tmp} (hdst : o.dst = some d) {m : Md}
    (hk : elems ee.ty m (parts.toList.map fun p => st.ev p.2) st (fun xs st => if live ee.ty m = true then K (st.set (some d) (.con (.slc ee.ty) xs)) else none) = some r0) : o.wp P a w (Post G I0 K r0) Q := by
  obtain ⟨xs, st', Im', R', w', h', v, k1, k2, k3, k4, k5⟩ := build_core hE hd hI h ho ht hdd hee hz hn hsz hp hk
  split at k1
  · rename_i hl
    obtain ⟨hi2, g⟩ := k3.freeze
    have hf := Rep.freeze (w' := w') (t := .slc ee.ty) (m := .own m) hl g.im g.heap (fun p hp => ⟨.inr (keys_mem.2 ⟨p, hp, rfl⟩), k3.sep.heap 0 p (by rw [own_zero]; simpa using hp)⟩) k4
    rw [← hdst] at k1
    exact wp_to k2 hd (fun b hb => g.im b (k5.im b (hI b hb))) hi2 (.ofCell (s := .con (.slc ee.ty) xs) hf rfl) k1
  · cases k1
/-- The append. -/
theorem go_some (hE : EnvOk P E) {t e : TypeId} {te : TE} (hu : P.underlying t = some (.slice e)) (hee : E.get e = some te) (hz : te.z = true) (hd : a.defers = []) {Im0 : Nat → Prop} (hI : ∀ b, I0 b → Im0 b) (g0 : Grow w w Im0 Im)
    {xs : List (den te.ty)} {free : Bool} {m : Md} {v1 v2 : Value} {s2 : SV} {h1 : Frag} (h : Inv G st a.tmps w Im R h1) (r1 : Rep w Im (.slc te.ty) (.own m) xs [v1] h1) (hfree : free = true → xs = [] ∧ h1 = [] ∧ ∃ A, v1 = .slice A 0 0)
    (hs : CV w Im R (V.shallow s2) v2) (hna : isAgg s2 = false) {d : Tmp} (hdst : o.dst = some d) {ty : TypeId} (hrun : ∀ v' w', (Builtin.append_ #[t, t] ty #[v1, v2]).run P w = .ok v' w' → (execOp a.eval o).run P w = .ok (.value v') w')
    (hk : appGo st d te s2 xs free m K = some r0) : o.wp P a w (Post G I0 K r0) Q := by
  obtain ⟨⟨i, hi⟩, _⟩ := hE e te hee
  have hna' : isAgg (V.shallow s2) = false := by rw [← hna]; exact isAgg_forget _ _
  -- what is appended
  have main : ∀ {ys : List (den te.ty)} {m' : Md} {st' : St} {Im' : Nat → Prop} {R' : Real} {h2 : Frag} {news : List Value}, Inv G st' a.tmps w Im' R' (h1 ++ h2) → Grow w w Im Im' → Src P (sz te.ty) t v2 ys.length news w →
      (flat te.ty = true → ∀ mm, RepL (fun x cs h => Rep w Im' te.ty mm x cs h) ys news h2) → RepL (fun x cs h => Rep w Im' te.ty m' x cs h) ys news h2 →
      (if free = true ∨ sameM te.ty m' m = true ∨ flat te.ty = true then
        (if (xs.length + ys.length) * te.bytes ≤ most ∧ 0 < te.bytes ∧ 0 < sz te.ty then
          K ((st'.lay (d * 16) { mem := none, t := .slc te.ty, m := .own (if free = true then m' else m), x := xs ++ ys }).set (some d) (.ref (d * 16) []))
        else none)
      else none) = some r0 → o.wp P a w (Post G I0 K r0) Q := by
    intro ys m' st' Im' R' h2 news hi' g src hfl hrep hk
    split at hk
    · rename_i hc
      split at hk
      · rename_i hb
        have rr1 : Rep w Im' (.slc te.ty) (.own (if free = true then m' else m)) xs [v1] h1 := by
          by_cases hf : free = true
          · rw [if_pos hf]
            obtain ⟨e1, e2, A, e3⟩ := hfree hf
            exact .inl ⟨e1, ⟨A, by rw [e3]⟩, e2⟩
          · rw [if_neg hf]; exact r1.grow g
        have rr2 : RepL (fun x cs h => Rep w Im' te.ty (if free = true then m' else m) x cs h) ys news h2 := by
          by_cases hf : free = true
          · rw [if_pos hf]; exact hrep
          · rw [if_neg hf]
            rcases hc with hc | hc | hc
            · exact absurd hc hf
            · exact hrep.mono fun _ _ _ r => r.same hc
            · exact hfl hc m
        obtain ⟨v', w', h', k1, k2, k3, g2⟩ := append_own (ty := ty) (e' := e) hu hi hz hi' rr1 src rr2 hb.1 hb.2.1
        have h3 := Inv.lay (hand := []) (hand' := h') k2 (d * 16) (b := { mem := none, t := .slc te.ty, m := .own (if free = true then m' else m), x := xs ++ ys }) (rb := ⟨0, [v'], h'⟩) k3 rfl
        rw [← hdst] at hk
        exact wp_to (hrun _ _ k1) hd (fun b hb => g.im b (g0.im b (hI b hb))) h3 (ref_ok rfl ⟨_, rfl⟩ R') hk
      · cases hk
    · cases hk
  unfold appGo newS at hk
  split at hk
  · rename_i hf
    have hne : V.shallow s2 ≠ .undef ∧ V.shallow s2 ≠ .tnil ∧ ∀ a b, V.shallow s2 ≠ .tcons a b := by
      refine ⟨?_, ?_, ?_⟩
      · intro h; rw [h] at hk; simp [look] at hk
      · intro h; rw [h] at hk; simp [look] at hk
      · intro a b h; rw [h] at hk; simp [look] at hk
    obtain ⟨cs, e1, hx⟩ := hs hne.1 hne.2.1 hne.2.2
    rw [if_neg (by simp [hna'])] at e1
    subst e1
    obtain ⟨ys, hk, hrep⟩ := look_some h hk hx
    obtain ⟨news, h2, src, r2, hsub⟩ := src_of hu hrep (fun p hp => by simp at hp) (.inl ⟨rfl, rfl⟩)
    have := flat_rows (w' := w) (Im' := Im) (m' := .ro) hf r2
    obtain ⟨e2, _⟩ := this
    subst e2
    exact main (h2 := []) (by rw [List.append_nil]; exact h) (Grow.refl _ _) src (fun _ mm => (flat_rows (w' := w) (Im' := Im) (m' := mm) hf r2).2) (flat_rows (w' := w) (Im' := Im) (m' := .ro) hf r2).2 hk
  · rename_i hf
    obtain ⟨cs, ys, my, st', Im', R', h2, e1, _, hk, hi', hrep, g, _, _⟩ := toC_cv hk h hs
    rw [if_neg (by simp [hna'])] at e1
    subst e1
    have hh : ∀ p ∈ h2, w.heap[p.1]? = some (.cells p.2.1 p.2.2 (0, 0)) := fun p hp => hi'.sep.heap 0 p (List.mem_append_right _ hp)
    split at hk
    · obtain ⟨news, h3, src, r2, hsub⟩ := src_of hu hrep hh (.inl ⟨rfl, rfl⟩)
      exact main (hi'.less hsub) g src (fun h => absurd h hf) r2 hk
    · rename_i mo
      obtain ⟨news, h3, src, r2, hsub⟩ := src_of hu hrep hh (.inr rfl)
      exact main (hi'.less hsub) g src (fun h => absurd h hf) r2 hk
    · cases hk
theorem step_append (hE : EnvOk P E) (hd : a.defers = []) (hI : ∀ b, I0 b → Im b) (h : Inv G st a.tmps w Im R []) {c : Cx} {cl : Call} (ho : o.op = .call cl) (hc : cl.callee = .builtin .append) {x y : Operand} (harg : cl.args = #[x, y]) {t e : TypeId} (hty : cl.argTypes = #[t, t])
    (hu : P.underlying t = some (.slice e)) {te : TE} (hee : E.get e = some te) (hz : te.z = true) {d : Tmp} (hdst : o.dst = some d) (hk : appS c st d te (st.ev x) (st.ev y) K = some r0) : o.wp P a w (Post G I0 K r0) Q := by
  have hrun : ∀ v' w', (Builtin.append_ #[t, t] o.type #[a.eval x, a.eval y]).run P w = .ok v' w' → (execOp a.eval o).run P w = .ok (.value v') w' := by
    intro v' w' hr
    simp [execOp, ho, resolve, invoke, builtin, hc, harg, hty, hr, Result.andThen]
  have hx := h.ev x
  unfold appS at hk
  split at hk
  · cases hk
  · rename_i hag
    simp only [not_or, Bool.not_eq_true] at hag
    split at hk
    · rename_i he
      rw [he] at hx
      have hv := hx.raw
      exact go_some hE hu hee hz hd hI (Grow.refl _ _) h (.inl ⟨rfl, ⟨none, by rw [hv]⟩, rfl⟩) (fun _ => ⟨rfl, rfl, none, hv⟩) (CV.of (h.ev y)).shallow hag.2 hdst hrun hk
    · rename_i he
      rw [he] at hx
      obtain ⟨A, hv⟩ := hx.cell (by simp) (by simp) (by simp) rfl
      simp at hv
      exact go_some hE hu hee hz hd hI (Grow.refl _ _) h (.inl ⟨rfl, ⟨A, by rw [hv]⟩, rfl⟩) (fun _ => ⟨rfl, rfl, A, hv⟩) (CV.of (h.ev y)).shallow hag.2 hdst hrun hk
    · obtain ⟨cs, xs, m, st', Im', R', h1, e1, _, hk, hi, hrep, g, hsv, _⟩ := toC_cv hk h (CV.of hx)
      rw [if_neg (by simp [hag.1])] at e1
      subst e1
      split at hk
      · exact go_some hE hu hee hz hd hI g hi hrep (fun h => by cases h) ((CV.of (h.ev y)).next hsv) hag.2 hdst hrun hk
      · cases hk
end
end Go.Proofs.Ytlgbhaigpecdoaa.V
