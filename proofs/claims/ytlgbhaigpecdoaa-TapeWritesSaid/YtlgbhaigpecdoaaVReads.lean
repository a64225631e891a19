/- Types of a program, and operations that look into the memory. -/
import Derived.Test.YtlgbhaigpecdoaaVPure
set_option linter.unusedVariables false
set_option linter.unusedSimpArgs false
namespace Go.Proofs.Ytlgbhaigpecdoaa.V
open Go

def zcells : Ty → List Value
  | .int k => [.int k 0]
  | .bool => [.bool false]
  | .str => [.string .empty]
  | .raw => [.nilIface]
  | .unit => []
  | .pair a b => zcells a ++ zcells b
  | .slc _ => [.slice none 0 0]
def foff : Ty → Nat → Nat
  | .pair a b, n + 1 => sz a + foff b n
  | _, _ => 0
def structTy : Ty → Bool
  | .unit => true
  | .pair _ b => structTy b
  | _ => false
structure InfoOk (P : Program) (t : TypeId) (te : TE) (i : TypeInfo) : Prop where
  info : P.info? t = some i
  size : i.size = sz te.ty
  bytes : i.bytes = te.bytes
  zero : te.z = true → ∃ z, i.zero = some z ∧ z.cells.toList = zcells te.ty
def UndOk (P : Program) (E : Env) (t : TypeId) (te : TE) : Prop :=
  match te.d with
  | .int k => P.underlying t = some (.int k) ∧ te.ty = .int k
  | .bool => P.underlying t = some .bool ∧ te.ty = .bool
  | .str => P.underlying t = some .string ∧ te.ty = .str
  | .slc e => P.underlying t = some (.slice e) ∧ ∃ ee, E.get e = some ee ∧ te.ty = .slc ee.ty
  | .struct fs => ∃ fields, P.underlying t = some (.struct fields) ∧ structTy te.ty = true ∧ fields.size = (fieldTys te.ty).length ∧
      ∀ j f, fields[j]? = some f → f.offset = foff te.ty j ∧ ∃ fe, E.get f.type = some fe ∧ (fieldTys te.ty)[j]? = some fe.ty ∧ sz fe.ty ≠ 0
  | .other => ∃ d, P.underlying t = some d ∧ d.isRow = false ∧ te.ty = .raw
def EnvOk (P : Program) (E : Env) : Prop := ∀ t te, E.get t = some te → (∃ i, InfoOk P t te i) ∧ UndOk P E t te

section
variable {P : Program} {G : Gl} {st : St} {vs : Array Value} {w : World} {Im : Nat → Prop} {R : Real} {hand : Frag} {T : Type} {r0 : T}
theorem Inv.real (h : Inv G st vs w Im R hand) {r : Nat} {b : Bx} (hb : bget st.boxes r = some b) : ∃ rb, R r = some (b, rb) := by
  have := h.box r
  rw [hb] at this
  cases hr : R r with
  | none => rw [hr] at this; cases this
  | some p => rw [hr] at this; obtain ⟨b', rb⟩ := p; simp at this; subst this; exact ⟨rb, rfl⟩
theorem fragOf_sub {b : Bx} {rb : RB} : ∀ p ∈ rb.h, p ∈ fragOf b rb := by
  intro p hp; unfold fragOf; split
  · exact List.mem_cons_of_mem _ hp
  · exact hp
theorem Inv.heapOK (h : Inv G st vs w Im R hand) {r : Nat} {b : Bx} {rb : RB} (hr : R r = some (b, rb)) : HeapOK w (fragOf b rb) := by
  intro p hp
  exact h.sep.heap (r + 1) p (by simp only [own, hr]; exact hp)
theorem Inv.nodup (h : Inv G st vs w Im R hand) {r : Nat} {b : Bx} {rb : RB} (hr : R r = some (b, rb)) : (keys (fragOf b rb)).Nodup := by
  have := h.sep.nod (r + 1)
  simpa only [own, hr] using this
theorem Inv.nodup' (h : Inv G st vs w Im R hand) {r : Nat} {b : Bx} {rb : RB} (hr : R r = some (b, rb)) : (keys rb.h).Nodup := by
  have := h.nodup hr
  unfold fragOf at this
  split at this
  · rw [keys_cons] at this; exact (List.nodup_cons.1 this).2
  · exact this
/-- What stands at a place that a slot leads to. -/
theorem Inv.at_ (h : Inv G st vs w Im R hand) {r : Nat} {b : Bx} {rb : RB} (hr : R r = some (b, rb)) {q : Path} (hv : Valid b.t b.x b.m q) :
    ∃ cs ad h1, nav w b.t rb.cs (locOf b rb) q = some (cs, ad) ∧ Rep w Im (ctype b.t q) (mget b.m q) (cget b.t b.x q) cs h1 ∧ (∀ p ∈ h1, p ∈ rb.h) := by
  obtain ⟨cs', ad', A, h1, B, n1, n2, n3, _⟩ := focus q (ad := locOf b rb) hv (h.rep r b rb hr) (fun p hp => h.heapOK hr p (fragOf_sub p hp)) (h.nodup' hr)
  exact ⟨cs', ad', h1, n1, n3, fun p hp => by rw [n2]; simp [hp]⟩
theorem Inv.ref (h : Inv G st vs w Im R hand) {r : Nat} {q : Path} {b : Bx} {v : Value} (hb : bget st.boxes r = some b) (hv : RefOK w R r q v) :
    ∃ h1 rb, R r = some (b, rb) ∧ Rep w Im (ctype b.t q) (mget b.m q) (cget b.t b.x q) [v] h1 ∧ (∀ p ∈ h1, p ∈ rb.h) := by
  obtain ⟨rb, hr⟩ := h.real hb
  obtain ⟨hval, _, ad, hn⟩ := hv b rb hr
  obtain ⟨cs, ad', h1, n1, n2, n3⟩ := h.at_ hr hval
  rw [hn] at n1
  simp only [Option.some.injEq, Prod.mk.injEq] at n1
  obtain ⟨rfl, rfl⟩ := n1
  exact ⟨h1, rb, hr, n2, n3⟩
theorem Rep.ownLen {w : World} {Im : Nat → Prop} {t : Ty} {m : Md} {xs : List (den t)} {v : Value} {h : Frag} (r : Rep w Im (.slc t) (.own m) xs [v] h) : ∃ A cap, v = .slice A xs.length cap ∧ xs.length ≤ cap := by
  rcases r with ⟨e0, ⟨A, e⟩, _⟩ | ⟨b, o, c, e, cap, h', e1, e2, e3, _⟩
  · subst e0; simp at e; exact ⟨A, 0, e, Nat.le_refl _⟩
  · simp at e1; exact ⟨_, cap, e1, e3⟩
theorem Rep.roLen {w : World} {Im : Nat → Prop} {t : Ty} {xs : List (den t)} {v : Value} {h : Frag} (r : Rep w Im (.slc t) .ro xs [v] h) : ∃ A cap, v = .slice A xs.length cap ∧ xs.length ≤ cap := by
  obtain ⟨_, A, cap, e, hc, _⟩ := r
  simp at e; exact ⟨A, cap, e, hc⟩
theorem rowOf_some {t : Ty} {x : den t} {m : Md} {cs : List Value} {h : Frag} {K : (t : Ty) → List (den t) → Md → Option T} (hk : rowOf t x m K = some r0) (hr : Rep w Im t m x cs h) :
    ∃ t' xs m', t = .slc t' ∧ m = .own m' ∧ Rep w Im (.slc t') (.own m') xs cs h ∧ (∀ i, i < List.length xs → VStep t x m (.idx i)) ∧ K t' xs m' = some r0 := by
  cases t <;> cases m <;> simp only [rowOf, reduceCtorEq] at hk
  exact ⟨_, _, _, rfl, rfl, hr, fun i hi => ⟨hi, _, rfl⟩, hk⟩
theorem len_some (h : Inv G st vs w Im R hand) {s : SV} {v : Value} {K : Int → Option T} (hk : lenS st.boxes s K = some r0) (hs : SVV w Im R s v) :
    ∃ n : Int, K n = some r0 ∧ ((strS s = true ∧ ∃ x : ByteArray, v = .string x ∧ n = x.size) ∨ (strS s = false ∧ ∃ (A : Option Addr) (k c : Nat), v = .slice A k c ∧ n = k)) := by
  unfold lenS at hk
  split at hk
  · have := hs.str; subst this; exact ⟨_, hk, .inl ⟨rfl, _, rfl, rfl⟩⟩
  · have := hs.cell (by simp) (by simp) (by simp) rfl
    obtain ⟨A, cap, e, _⟩ := Rep.roLen this
    exact ⟨_, hk, .inr ⟨rfl, A, _, cap, e, rfl⟩⟩
  · have := hs.raw; exact ⟨0, hk, .inr ⟨rfl, _, _, _, this, rfl⟩⟩
  · have := hs.cell (by simp) (by simp) (by simp) rfl
    obtain ⟨A, e⟩ := this; simp at e; exact ⟨0, hk, .inr ⟨rfl, A, 0, 0, e, rfl⟩⟩
  · rename_i r q
    split at hk
    · rename_i b hb
      obtain ⟨u, e, hr⟩ := hs.cell (by simp) (by simp) (by simp) rfl
      simp at e; subst e
      obtain ⟨h1, rb, _, n2, _⟩ := h.ref hb hr
      obtain ⟨t, xs, m, _, _, n3, _, hk⟩ := rowOf_some hk n2
      obtain ⟨A, cap, e, _⟩ := Rep.ownLen n3
      exact ⟨_, hk, .inr ⟨rfl, A, _, cap, e, rfl⟩⟩
    · cases hk
  · rename_i r q lo n
    split at hk
    · rename_i b hb
      obtain ⟨u, e, u2, hr, hh⟩ := hs.cell (by simp) (by simp) (by simp) rfl
      simp at e; subst e
      obtain ⟨rb, hrr⟩ := h.real hb
      obtain ⟨t, A, len, cap, A', cap', _, _, e2, _⟩ := hh b rb hrr
      exact ⟨_, hk, .inr ⟨rfl, A', n, cap', e2, rfl⟩⟩
    · cases hk
  · cases hk
end

theorem nav_append (w : World) : ∀ (q q' : Path) (t : Ty) (cs : List Value) (ad : Option (Nat × Nat)), nav w t cs ad (q ++ q') = (nav w t cs ad q).bind fun p => nav w (ctype t q) p.1 p.2 q'
  | [], q', t, cs, ad => rfl
  | s :: q, q', t, cs, ad => by
    show (match navStep w t cs ad s with | some p => nav w (tstep t s) p.1 p.2 (q ++ q') | none => none) = Option.bind (match navStep w t cs ad s with | some p => nav w (tstep t s) p.1 p.2 q | none => none) _
    cases navStep w t cs ad s with
    | none => rfl
    | some p => exact nav_append w q q' _ _ _
theorem Valid_append : ∀ (q q' : Path) {t : Ty} {x : den t} {m : Md}, Valid t x m (q ++ q') ↔ Valid t x m q ∧ Valid (ctype t q) (cget t x q) (mget m q) q'
  | [], q', t, x, m => by simp [Valid, ctype, cget, mget]
  | s :: q, q', t, x, m => by
    have := Valid_append q q' (t := tstep t s) (x := vstep t x s) (m := m.step s)
    constructor
    · rintro ⟨h1, h2⟩; exact ⟨⟨h1, (this.1 h2).1⟩, (this.1 h2).2⟩
    · rintro ⟨⟨h1, h2⟩, h3⟩; exact ⟨h1, this.2 ⟨h2, h3⟩⟩
theorem VStep_fst {t : Ty} (x : den t) (m : Md) (h : ∃ a b, t = .pair a b) : VStep t x m .fst := by obtain ⟨a, b, rfl⟩ := h; trivial
theorem VStep_snd {t : Ty} (x : den t) (m : Md) (h : ∃ a b, t = .pair a b) : VStep t x m .snd := by obtain ⟨a, b, rfl⟩ := h; trivial
theorem ctype_append : ∀ (q q' : Path) (t : Ty), ctype t (q ++ q') = ctype (ctype t q) q'
  | [], _, _ => rfl
  | s :: q, q', t => ctype_append q q' (tstep t s)
theorem lev_append : ∀ (q q' : Path), lev (q ++ q') = lev q + lev q'
  | [], q' => by simp [lev]
  | .fst :: q, q' => by simpa [lev] using lev_append q q'
  | .snd :: q, q' => by simpa [lev] using lev_append q q'
  | .idx _ :: q, q' => by simp [lev, lev_append q q']; omega

/-- A value of a type, of its cells. -/
def pack (t : Ty) (cs : List Value) (v : Value) : Prop := if aggTy t = true then v = .agg cs.toArray else cs = [v]
theorem isAgg_con (t : Ty) (x : den t) : isAgg (.con t x) = aggTy t := by cases t <;> rfl
theorem isAgg_view (r : Nat) (t : Ty) (m : Md) (x : den t) (q : Path) (h : view r t m x q ≠ .undef) : isAgg (view r t m x q) = aggTy t := by
  cases t <;> (try rfl)
  cases m <;> simp [view] at h ⊢ <;> rfl

section
variable {P : Program} {G : Gl} {st : St} {vs : Array Value} {w : World} {Im : Nat → Prop} {R : Real} {hand : Frag} {T : Type} {r0 : T} {E : Env}
theorem view_ok {r : Nat} {b : Bx} {rb : RB} (hr : R r = some (b, rb)) : ∀ {t : Ty} {m : Md} {x : den t} {cs : List Value} {h : Frag} {q : Path} {ad : Option (Nat × Nat)},
    Valid b.t b.x b.m q → nav w b.t rb.cs (locOf b rb) q = some (cs, ad) → ctype b.t q = t → Rep w Im t m x cs h → SVX w Im R (view r t m x q) false cs
  | .int _, _, _, _, _, _, _, _, _, _, h => ⟨h.1, rfl⟩
  | .bool, _, _, _, _, _, _, _, _, _, h => ⟨h.1, rfl⟩
  | .str, _, _, _, _, _, _, _, _, _, h => ⟨h.1, rfl⟩
  | .raw, _, _, _, _, _, _, _, _, _, h => ⟨h.1, h.2.1, rfl⟩
  | .unit, _, _, _, _, _, _, _, _, _, h => ⟨h.1, rfl⟩
  | .pair a b', m, x, _, _, q, ad, hv, hn, ht, ⟨c1, c2, h1, h2, e1, e2, r1, r2⟩ => by
    subst e1
    have hl := r1.len
    have hn1 : nav w b.t rb.cs (locOf b rb) (q ++ [.fst]) = some (c1, ad) := by
      rw [nav_append, hn, ht]; simp [nav, navStep, ← hl]
    have hn2 : nav w b.t rb.cs (locOf b rb) (q ++ [.snd]) = some (c2, ad.map fun p => (p.1, p.2 + sz a)) := by
      rw [nav_append, hn, ht]; simp [nav, navStep, ← hl]
    exact ⟨c1, c2, rfl, view_ok hr ((Valid_append q _).2 ⟨hv, VStep_fst _ _ ⟨a, b', ht⟩, trivial⟩) hn1 (by rw [ctype_append, ht]; rfl) r1,
      view_ok hr ((Valid_append q _).2 ⟨hv, VStep_snd _ _ ⟨a, b', ht⟩, trivial⟩) hn2 (by rw [ctype_append, ht]; rfl) r2⟩
  | .slc t, .ro, x, _, _, q, ad, hv, hn, ht, h => by have := Rep.ro h; subst this; exact h
  | .slc t, .own m, x, cs, _, q, ad, hv, hn, ht, h => by
    obtain ⟨v, rfl⟩ : ∃ v, cs = [v] := by
      have := h.len; simp [sz] at this
      match cs, this with
      | [v], _ => exact ⟨v, rfl⟩
    refine ⟨v, rfl, fun b' rb' hr' => ?_⟩
    rw [hr] at hr'; cases hr'
    exact ⟨hv, ⟨t, ht⟩, ad, hn⟩
  | .slc t, .dead, x, _, _, q, ad, hv, hn, ht, ⟨⟨v, e, _⟩, _⟩ => by rw [e]; simp [view, SVX]
  | .slc t, .pair _ _, x, _, _, q, ad, hv, hn, ht, h => by exact absurd h (by simp [Rep])
theorem SVV.ofPack {s : SV} {t : Ty} {cs : List Value} {v : Value} (h : SVX w Im R s false cs) (hp : pack t cs v) (hs : s ≠ .undef → isAgg s = aggTy t) : SVV w Im R s v := by
  by_cases hu : s = .undef
  · exact .inl hu
  · refine .inr (.inr ⟨cs, ?_, h⟩)
    rw [hs hu]; exact hp
theorem struct_agg {t : Ty} (h : structTy t = true) : aggTy t = true := by cases t <;> simp_all [structTy, aggTy]
/-- The load. -/
theorem run_load (hE : EnvOk P E) {tid : TypeId} {te : TE} (ht : E.get tid = some te) {b o : Nat} {c : Array Value} {e : TypeId} {fz : Nat × Nat} (hh : w.heap[b]? = some (.cells c e fz))
    {cs : List Value} (hc : (c.toList.drop o).take (sz te.ty) = cs) (hl : cs.length = sz te.ty) : ∃ v, (Instr.loadAt tid (.pointer (some ⟨b, o, none⟩))).run P w = .ok v w ∧ pack te.ty cs v := by
  obtain ⟨⟨i, hi⟩, hu⟩ := hE tid te ht
  have hcell : w.rangeAt b o cs := by
    intro j v hv
    rw [← hc] at hv
    have hj : j < sz te.ty := by rw [← hl, ← hc]; exact (List.getElem?_eq_some_iff.1 hv).1
    rw [List.getElem?_take_of_lt hj, List.getElem?_drop] at hv
    simp only [World.cell?, hh]
    simpa using hv
  have hagg : ∀ d, P.underlying tid = some d → d.isRow = true → aggTy te.ty = true → ∃ v, (Instr.loadAt tid (.pointer (some ⟨b, o, none⟩))).run P w = .ok v w ∧ pack te.ty cs v := by
    intro d hd hrow ha
    exact ⟨_, run_loadAt_mid w b o tid cs d hcell hd hrow (by rw [hi.info]; simp [hi.size, hl]), by simp [pack, ha]⟩
  have hone : ∀ d, P.underlying tid = some d → d.isRow = false → aggTy te.ty = false → sz te.ty = 1 → ∃ v, (Instr.loadAt tid (.pointer (some ⟨b, o, none⟩))).run P w = .ok v w ∧ pack te.ty cs v := by
    intro d hd hrow ha h1
    rw [h1] at hl
    match cs, hl, hcell with
    | [v], _, hcell =>
      refine ⟨v, ?_, by simp [pack, ha]⟩
      have h0 : w.cell? ⟨b, o, none⟩ = some v := by simpa using hcell 0 v rfl
      have : (Go.isAgg tid).run P w = .ok false w := by
        unfold Go.isAgg; rw [Sem.run_bind, run_underlying hd]; cases d <;> simp_all
      simp [Instr.loadAt, Instr.sureAddr, loadVar, Sem.run_bind, this, load, Sem.run, h0]
  unfold UndOk at hu
  split at hu
  · obtain ⟨h1, h2⟩ := hu; exact hone _ h1 rfl (by rw [h2]; rfl) (by rw [h2]; rfl)
  · obtain ⟨h1, h2⟩ := hu; exact hone _ h1 rfl (by rw [h2]; rfl) (by rw [h2]; rfl)
  · obtain ⟨h1, h2⟩ := hu; exact hone _ h1 rfl (by rw [h2]; rfl) (by rw [h2]; rfl)
  · obtain ⟨h1, ee, _, h2⟩ := hu; exact hone _ h1 rfl (by rw [h2]; rfl) (by rw [h2]; rfl)
  · obtain ⟨fs, h1, h2, _⟩ := hu; exact hagg _ h1 rfl (struct_agg h2)
  · obtain ⟨d, h1, h2, h3⟩ := hu; exact hone _ h1 h2 (by rw [h3]; rfl) (by rw [h3]; rfl)
/-- A place that has an address lies in the memory. -/
theorem Inv.loc (h : Inv G st vs w Im R hand) {r : Nat} {b : Bx} {rb : RB} (hr : R r = some (b, rb)) {q : Path} (hv : Valid b.t b.x b.m q) {cs : List Value} {b' o : Nat}
    (hn : nav w b.t rb.cs (locOf b rb) q = some (cs, some (b', o))) : ∃ c e, w.heap[b']? = some (.cells c e (0, 0)) ∧ (c.toList.drop o).take (sz (ctype b.t q)) = cs ∧ cs.length = sz (ctype b.t q) := by
  obtain ⟨cs', ad', A, h1, B, n1, n2, n3, n4, n5⟩ := focus q (ad := locOf b rb) hv (h.rep r b rb hr) (fun p hp => h.heapOK hr p (fragOf_sub p hp)) (h.nodup' hr)
  rw [hn] at n1
  simp only [Option.some.injEq, Prod.mk.injEq] at n1
  obtain ⟨rfl, rfl⟩ := n1
  have hl := n3.len
  by_cases h0 : lev q = 0
  · obtain ⟨pre, post, p1, p2, _⟩ := n4 h0
    unfold locOf at p2
    cases hm : b.mem with
    | none => rw [hm] at p2; simp at p2
    | some e =>
      rw [hm] at p2
      simp at p2
      obtain ⟨rfl, rfl⟩ := p2
      have := h.heapOK hr ((blkOf b rb), (rb.cs.toArray, e)) (by unfold fragOf; rw [hm]; exact List.mem_cons_self ..)
      refine ⟨rb.cs.toArray, e, this, ?_, hl⟩
      simp [p1, ← hl]
  · obtain ⟨A1, A2, b2, c, e, pre, post, p0, p1, p2, _⟩ := n5 h0
    simp only [Option.some.injEq, Prod.mk.injEq] at p2
    obtain ⟨rfl, rfl⟩ := p2
    have := h.heapOK hr (b', (c, e)) (fragOf_sub _ (by rw [n2, p0]; simp))
    refine ⟨c, e, this, ?_, hl⟩
    simp [p1, ← hl]
theorem load_some (hE : EnvOk P E) (h : Inv G st vs w Im R hand) {tid : TypeId} {te : TE} (ht : E.get tid = some te) {s : SV} {v : Value} {K : SV → Option T} (hk : loadS st.boxes te.ty s K = some r0) (hs : SVV w Im R s v) :
    ∃ s' z, K s' = some r0 ∧ (Instr.loadAt tid v).run P w = .ok z w ∧ SVV w Im R s' z := by
  unfold loadS at hk
  split at hk
  · rename_i t x
    split at hk
    · rename_i e; subst e
      obtain ⟨b, o, c, e, fz, e1, e2, e3, e4⟩ := hs.cell (by simp) (by simp) (by simp) rfl
      simp at e1; subst e1
      obtain ⟨z, hz, hp⟩ := run_load hE ht e3 rfl e4.len
      exact ⟨_, z, hk, hz, .ofPack (t := te.ty) e4 hp (fun _ => isAgg_con _ _)⟩
    · cases hk
  · rename_i r q
    split at hk
    · rename_i b hb
      split at hk
      · rename_i e
        obtain ⟨rb, hr⟩ := h.real hb
        obtain ⟨u, e1, hp⟩ := hs.cell (by simp) (by simp) (by simp) rfl
        simp at e1; subst e1
        obtain ⟨hv, cs, b', o, hn, rfl⟩ := hp b rb hr
        obtain ⟨c, el, hh, hc, hl⟩ := h.loc hr hv hn
        obtain ⟨cs2, ad2, h1, n1, n2, _⟩ := h.at_ hr hv
        rw [hn] at n1; simp only [Option.some.injEq, Prod.mk.injEq] at n1; obtain ⟨rfl, rfl⟩ := n1
        rw [e] at hc hl
        obtain ⟨z, hz, hp⟩ := run_load hE ht hh hc hl
        refine ⟨_, z, hk, hz, .ofPack (t := te.ty) (view_ok hr hv hn rfl n2) hp (fun hu => ?_)⟩
        rw [isAgg_view _ _ _ _ _ hu, e]
      · cases hk
    · cases hk
  · cases hk
end
end Go.Proofs.Ytlgbhaigpecdoaa.V
