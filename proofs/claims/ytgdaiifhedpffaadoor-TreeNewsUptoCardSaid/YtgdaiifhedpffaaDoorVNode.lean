/- Codes, calls, functions, the table of types, nodes. -/
import Derived.Test.YtgdaiifhedpffaaDoorVStepS
import Derived.Orders
import Derived.Test.YtgdaiifhedpffaaDoorVRun
import Derived.Test.YtgdaiifhedpffaaDoorVDrawC
import Derived.LoopN
set_option linter.unusedVariables false
set_option linter.unusedSimpArgs false
namespace Go.Proofs.YtgdaiifhedpffaaDoor.V
open Go
theorem Act.eval_put_same' (a : Act) (d : Nat) (v : Value) (h : d < a.tmps.size) : (a.put (some d) v).eval (.tmp d) = v := by
  simp [Act.put, Act.eval, h]
theorem nav_lev0 : ∀ (q : Path) {t : Ty} {m : Md} {x : den t} {w w' : World} {cs : List Value} {ad : Option (Nat × Nat)}, lev q = 0 → Valid t x m q → nav w' t cs ad q = nav w t cs ad q
  | [], _, _, _, _, _, _, _, _, _ => rfl
  | s :: q, t, m, x, w, w', cs, ad, h0, ⟨hs, hv⟩ => by
    cases t <;> cases s <;> simp only [VStep] at hs <;> (try exact hs.elim)
    · simp only [nav, navStep]
      exact nav_lev0 q (by simpa [lev] using h0) hv
    · simp only [nav, navStep]
      exact nav_lev0 q (by simpa [lev] using h0) hv
    · simp [lev] at h0
theorem nav_above {w w' : World} {Im : Nat → Prop} {bk off n cap : Nat} {t' : Ty} {m' : Md} : ∀ (q : Path) {t : Ty} {m : Md} {x : den t} {cs : List Value} {h : Frag} {ad ad' : Option (Nat × Nat)}, Valid t x m q → Rep w Im t m x cs h → HeapOK w h → (keys h).Nodup →
    (ht : ctype t q = .slc t') → mget m q = .own m' → 0 < cap → nav w t cs ad q = some ([.slice (some ⟨bk, off, none⟩) n cap], ad') →
    (∀ k ∈ keys h, k ≠ bk → w'.heap[k]? = w.heap[k]?) → nav w' t cs ad q = nav w t cs ad q
  | [], _, _, _, _, _, _, _, _, _, _, _, _, _, _, _, _ => rfl
  | s :: q, t, m, x, cs, h, ad, ad', ⟨hs, hv⟩, hr, hh, hnd, ht, hm, hne, hn, hk => by
    cases t <;> cases s <;> simp only [VStep] at hs <;> (try exact hs.elim)
    case pair.fst a b =>
      obtain ⟨c1, c2, h1, h2, e1, e2, r1, r2⟩ := hr
      subst e1; subst e2
      have hl := r1.len
      have et : (c1 ++ c2).take (sz a) = c1 := by rw [← hl]; simp
      simp only [nav, navStep, et] at hn ⊢
      rw [keys_append] at hnd
      exact nav_above (t := a) q hv r1 (fun p hp => hh p (List.mem_append_left _ hp)) (List.nodup_append.1 hnd).1 ht hm hne hn (fun k hk' => hk k (by rw [keys_append]; exact List.mem_append_left _ hk'))
    case pair.snd a b =>
      obtain ⟨c1, c2, h1, h2, e1, e2, r1, r2⟩ := hr
      subst e1; subst e2
      have hl := r1.len
      have et : (c1 ++ c2).drop (sz a) = c2 := by rw [← hl]; simp
      simp only [nav, navStep, et] at hn ⊢
      rw [keys_append] at hnd
      exact nav_above (t := b) q hv r2 (fun p hp => hh p (List.mem_append_right _ hp)) (List.nodup_append.1 hnd).2.1 ht hm hne hn (fun k hk' => hk k (by rw [keys_append]; exact List.mem_append_right _ hk'))
    case slc.idx t i =>
      obtain ⟨hi, me, rfl⟩ := hs
      have hi : i < List.length x := hi
      obtain ⟨b, o, c, e, cap', h', e1, e2, e3, e4, e5, r1⟩ := Rep.own_cons hr (by intro h0; rw [h0] at hi; simp at hi)
      subst e1; subst e2
      obtain ⟨pre0, c0, post0, hp, g0, hq, d1, d2, d3, d4, d5, d6⟩ := RepL.nth (n := sz t) (dflt t) (fun _ _ _ r => r.len) i hi r1
      subst d2
      have hhb : w.heap[b]? = some (.cells c e (0, 0)) := hh (b, .cells c e) (List.mem_cons_self ..)
      have hl0 : c0.length = sz t := d4.len
      have et : (c.toList.drop (o + i * sz t)).take (sz t) = c0 := by
        rw [← List.drop_drop, d1, ← d3]; simp [← hl0]
      simp only [nav, navStep, hhb, et] at hn
      have hh0 : HeapOK w g0 := fun p hp' => hh p (List.mem_cons_of_mem _ (List.mem_append_left _ (List.mem_append_right _ hp')))
      have hnd2 : (keys (hp ++ g0 ++ hq)).Nodup ∧ b ∉ keys (hp ++ g0 ++ hq) := by
        rw [keys_cons] at hnd; exact ⟨(List.nodup_cons.1 hnd).2, (List.nodup_cons.1 hnd).1⟩
      have hnd0 : (keys g0).Nodup := by
        have := hnd2.1
        simp only [keys_append] at this
        exact (List.nodup_append.1 (List.nodup_append.1 this).1).2.1
      have hbb : b ≠ bk := by
        obtain ⟨cs1, ad1, A, h1, B, n1, n2, n3, _⟩ := focus q (ad := some (b, o + i * sz t)) hv d4 hh0 hnd0
        rw [hn] at n1
        simp only [Option.some.injEq, Prod.mk.injEq] at n1
        obtain ⟨rfl, _⟩ := n1
        have n3' := n3.cast ht
        rw [show mget ((Md.own me).step (.idx i)) q = .own m' from hm] at n3'
        have : bk ∈ keys g0 := by
          rcases n3' with ⟨_, ⟨A0, f1⟩, _⟩ | ⟨b2, o2, c2, e2, cp2, g2, f1, f2, _⟩
          · simp only [List.cons.injEq, and_true, Value.slice.injEq] at f1
            omega
          · simp only [List.cons.injEq, and_true, Value.slice.injEq, Option.some.injEq, Addr.mk.injEq] at f1
            rw [n2, f2]; simp [keys, f1.1.1]
        intro eb
        refine hnd2.2 ?_
        rw [eb]; simp only [keys_append, List.mem_append]; exact .inl (.inr this)
      have hhb' : w'.heap[b]? = some (.cells c e (0, 0)) := (hk b (by simp [keys]) hbb).trans hhb
      simp only [nav, navStep, hhb, hhb', et]
      exact nav_above q (t := t) hv d4 hh0 hnd0 ht hm hne hn (fun k hk' => hk k (by
        simp only [keys_cons, keys_append, List.mem_cons, List.mem_append]; exact .inr (.inl (.inr hk'))))
section
variable {P : Program} {G : Gl} {I0 : Nat → Prop} {st st1 : St} {a : Act} {vs : Array Value} {w w' : World} {Im : Nat → Prop} {R : Real} {hand hand' : Frag} {o : Oper} {T : Type} {K : St → Option T} {r0 : T} {Q : Exit → Act → World → Prop} {E : Env}
theorem shallow_hs {r : Nat} {b bN : Bx} {rb rbN : RB} (hr : R r = some (b, rb)) (ht : bN.t = b.t) (hl : locOf bN rbN = locOf b rb) (hcs : rbN.cs = rb.cs) (w' : World) :
    (∀ q v, (decide (r = r) && !decide (lev q = 0)) = false → RefOK w R r q v → RefOK w' (fun j => if j = r then some (bN, rbN) else R j) r q v) ∧
      (∀ q lo n v, (decide (r = r) && !decide (lev q = 0)) = false → SubOK w R r q lo n v → SubOK w' (fun j => if j = r then some (bN, rbN) else R j) r q lo n v) ∧
      (∀ q v, (decide (r = r) && !decide (lev q = 0)) = false → PtrOK w R r q v → PtrOK w' (fun j => if j = r then some (bN, rbN) else R j) r q v) := by
  obtain ⟨tN, mN, xN, pN⟩ : ∃ t m x p, bN = { bN with t := t, m := m, x := x, pin := p } := ⟨_, _, _, _, rfl⟩
  have refs : ∀ q v, (decide (r = r) && !decide (lev q = 0)) = false → RefOK w R r q v → RefOK w' (fun j => if j = r then some (bN, rbN) else R j) r q v := by
    intro q v hp hh b2 rb2 hb2
    have h0 : lev q = 0 := by simpa using hp
    simp only [if_true] at hb2; cases hb2
    obtain ⟨hv, ht2, ad, hn⟩ := hh b rb hr
    refine ⟨?_, by rw [ht]; exact ht2, ad, ?_⟩
    · obtain ⟨mem, t, m, x, pin⟩ := bN
      dsimp only at ht ⊢
      subst ht
      exact valid0 q h0 hv
    · rw [ht, hl, hcs, nav_lev0 q (w := w) h0 hv]; exact hn
  refine ⟨refs, fun q lo n v hp ⟨u, hu, hsub⟩ => ⟨u, refs q u hp hu, fun b2 rb2 hb2 => ?_⟩, fun q v hp hh b2 rb2 hb2 => ?_⟩
  · simp only [if_true] at hb2; cases hb2
    rw [ht]; exact hsub b rb hr
  · have h0 : lev q = 0 := by simpa using hp
    simp only [if_true] at hb2; cases hb2
    obtain ⟨hv, cs2, b3, o2, hn, e2⟩ := hh b rb hr
    refine ⟨?_, cs2, b3, o2, ?_, e2⟩
    · obtain ⟨mem, t, m, x, pin⟩ := bN
      dsimp only at ht ⊢
      subst ht
      exact valid0 q h0 hv
    · rw [ht, hl, hcs, nav_lev0 q (w := w) h0 hv]; exact hn
theorem frag_split (b : Bx) (rb : RB) : ∃ M : List Nat, ∀ (x' : den b.t) (h' : Frag), keys (fragOf { b with x := x' } { rb with h := h' }) = M ++ keys h' := by
  refine ⟨match b.mem with | some _ => [blkOf b rb] | none => [], fun x' h' => ?_⟩
  unfold fragOf
  cases hm : b.mem <;> simp [keys, hm, blkOf]
theorem nodup_mid {M A1 A2 h1 h2 B : List Nat} {k : Nat} (h : (M ++ ((A1 ++ k :: A2) ++ h1 ++ B)).Nodup) (hn : h2.Nodup) (hd : h2 = h1 ∨ ∀ x ∈ h2, x ∉ M ∧ x ∉ (A1 ++ k :: A2) ∧ x ∉ B) : (M ++ ((A1 ++ k :: A2) ++ h2 ++ B)).Nodup := by
  rcases hd with rfl | hd
  · exact h
  generalize (A1 ++ k :: A2) = L at h hd ⊢
  simp only [List.nodup_append, List.mem_append] at h ⊢
  refine ⟨h.1, ⟨⟨h.2.1.1.1, hn, fun x hx z hz ek => (hd z hz).2.1 (ek ▸ hx)⟩, h.2.1.2.1, fun x hx z hz ek => ?_⟩, fun x hx z hz ek => ?_⟩
  · rcases hx with hx | hx
    · exact h.2.1.2.2 x (.inl hx) z hz ek
    · exact (hd x hx).2.2 (ek ▸ hz)
  · rcases hz with (hz | hz) | hz
    · exact h.2.2 x hx z (.inl (.inl hz)) ek
    · exact (hd z hz).1 (ek ▸ hx)
    · exact h.2.2 x hx z (.inr hz) ek
theorem Inv.putDeep (h : Inv G st vs w Im R (hand ++ hand')) {r : Nat} {b : Bx} {rb : RB} (hr : R r = some (b, rb)) {q : Path} (hv : Valid b.t b.x b.m q) (h0 : lev q ≠ 0) {cs : List Value} {b' off : Nat} (hn : nav w b.t rb.cs (locOf b rb) q = some (cs, some (b', off)))
    {y : den (ctype b.t q)} {c2 : List Value} (hl3 : c2.length = sz (ctype b.t q))
    (hrep : ∀ h1, Rep w Im (ctype b.t q) (mget b.m q) (cget b.t b.x q) cs h1 → (∀ p ∈ h1, p ∈ fragOf b rb) → ∃ h2, (h2 = h1 ∨ h2 = hand') ∧ ∀ w', Grow w w' Im Im → Rep w' Im (ctype b.t q) (mget b.m q) y c2 h2) :
    ∃ cur e R', w.heap[b']? = some (.cells cur e (0, 0)) ∧ off + c2.length ≤ cur.size ∧
      ∀ st', (∀ j, bget st'.boxes j = if j = r then some { b with x := cput b.t b.x q y } else bget st.boxes j) → st'.slots = st.slots.map (kill1 r) →
        Inv G st' vs (w.setRow b' (cur.toList.take off ++ c2 ++ cur.toList.drop (off + c2.length)).toArray) Im R' hand := by
  obtain ⟨cs', ad', A, h1, B, n1, n2, n3, n4, n5⟩ := focus q (ad := locOf b rb) hv (h.rep r b rb hr) (fun p hp => h.heapOK hr p (fragOf_sub p hp)) (h.nodup' hr)
  rw [hn] at n1
  simp only [Option.some.injEq, Prod.mk.injEq] at n1
  obtain ⟨rfl, rfl⟩ := n1
  obtain ⟨h2, hh2, hrep⟩ := hrep h1 n3 (fun p hp => fragOf_sub p (by rw [n2]; simp [hp]))
  have hl2 : c2.length = cs.length := by rw [hl3, n3.len]
  have hnf := h.nodup hr
  have dj : ∀ k ∈ keys hand', k ∉ keys (fragOf b rb) := fun k hk hk2 => h.sep.sep 0 (r + 1) (by simp) k (by rw [own_zero, keys_append]; exact List.mem_append_right _ hk) (by rw [own_at hr]; exact hk2)
  have ndh : (keys hand').Nodup := by have := h.sep.nod 0; rw [own_zero, keys_append] at this; exact (List.nodup_append.1 this).2.1
  obtain ⟨A1, A2, b2, cc, e, pre, post, p0, p1, p2, p3, p4⟩ := n5 h0
  simp only [Option.some.injEq, Prod.mk.injEq] at p2
  obtain ⟨rfl, rfl⟩ := p2
  have hin : (b', .cells cc e) ∈ rb.h := by rw [n2, p0]; simp
  have hh0 : w.heap[b']? = some (.cells cc e (0, 0)) := h.heapOK hr _ (fragOf_sub _ hin)
  refine ⟨cc, e, (fun j => if j = r then some ({ b with x := cput b.t b.x q y }, { rb with h := A1 ++ (b', .cells (pre ++ c2 ++ post).toArray e) :: A2 ++ h2 ++ B }) else R j), hh0, by have := congrArg List.length p1; simp at this; omega, fun st' hbox hsl => ?_⟩
  have ecs : (cc.toList.take pre.length ++ c2 ++ cc.toList.drop (pre.length + c2.length)) = pre ++ c2 ++ post := by
    rw [hl2, p1]; simp
  rw [ecs]
  have gr : Grow w (w.setRow b' (pre ++ c2 ++ post).toArray) Im Im := ⟨fun _ h => h, fun k hk => setRow_other _ _ _ _ (by
    rintro rfl; exact h.sep.im (r + 1) _ (by rw [own_at hr]; exact keys_mem.2 ⟨_, fragOf_sub _ hin, rfl⟩) hk)⟩
  have hnh := h.nodup' hr
  rw [n2, p0] at hnh
  have ndh1 : (keys h1).Nodup := by
    simp only [keys_append] at hnh
    exact (List.nodup_append.1 (List.nodup_append.1 hnh).1).2.1
  refine h.change (bN := { b with x := cput b.t b.x q y }) (rbN := { rb with h := A1 ++ (b', .cells (pre ++ c2 ++ post).toArray e) :: A2 ++ h2 ++ B }) (p := fun _ s q => decide (s = r) && !decide (lev q = 0)) hr (k0 := b') (c0 := cc) (e0 := e)
    (fragOf_sub _ hin) ?_ ?_ ?_ hbox (by rw [hsl]; rfl) (shallow_hs (bN := { b with x := cput b.t b.x q y }) (rbN := { rb with h := A1 ++ (b', .cells (pre ++ c2 ++ post).toArray e) :: A2 ++ h2 ++ B }) hr rfl rfl rfl _)
  · intro p hp
    have key : ∀ p ∈ A1 ++ A2 ++ h1 ++ B, p ∈ fragOf b rb ∧ p.1 ≠ b' := fun p hp => by
      have hp2 : p ∈ rb.h := by rw [n2, p0]; simp at hp ⊢; rcases hp with h | h | h | h <;> simp [h]
      refine ⟨fragOf_sub p hp2, fun ek => ?_⟩
      simp only [keys_append, keys_cons] at hnh
      have hk : p.1 ∈ keys A1 ++ keys A2 ++ keys h1 ++ keys B := by
        simp only [List.mem_append] at hp ⊢
        rcases hp with ((h | h) | h) | h
        · exact .inl (.inl (.inl (keys_mem.2 ⟨p, h, rfl⟩)))
        · exact .inl (.inl (.inr (keys_mem.2 ⟨p, h, rfl⟩)))
        · exact .inl (.inr (keys_mem.2 ⟨p, h, rfl⟩))
        · exact .inr (keys_mem.2 ⟨p, h, rfl⟩)
      rw [ek] at hk
      simp only [List.nodup_append, List.nodup_cons, List.mem_append, List.mem_cons] at hnh hk
      rcases hk with ((h | h) | h) | h
      · exact hnh.1.1.2.2 b' h b' (.inl rfl) rfl
      · exact hnh.1.1.2.1.1 h
      · exact hnh.1.2.2 b' (.inr (.inl rfl)) b' h rfl
      · exact hnh.2.2 b' (.inl (.inr (.inl rfl))) b' h rfl
    have hp' : p ∈ (match b.mem with | some ty => [((blkOf b rb), .cells rb.cs.toArray ty)] | none => []) ++ (A1 ++ (b', .cells (pre ++ c2 ++ post).toArray e) :: A2 ++ h2 ++ B) := by
      unfold fragOf at hp; cases hmm : b.mem <;> simp only [hmm] at hp ⊢ <;> simpa [blkOf] using hp
    rcases List.mem_append.1 hp' with hp | hp
    · have hf : p ∈ fragOf b rb := by unfold fragOf; cases hmm : b.mem <;> simp only [hmm] at hp ⊢ <;> simp at hp; rw [hp]; exact List.mem_cons_self ..
      refine .inl ⟨hf, fun ek => ?_⟩
      rw [fragOf_keys] at hnf
      cases hmm : b.mem with
      | none => rw [hmm] at hp; simp at hp
      | some ty =>
        rw [hmm] at hp hnf; simp at hp hnf
        rw [hp] at ek
        exact hnf.1 (by have ek : (blkOf b rb) = b' := ek; rw [ek]; exact keys_mem.2 ⟨_, hin, rfl⟩)
    · simp only [List.mem_append, List.mem_cons] at hp
      rcases hp with ((hp | hp | hp) | hp) | hp
      · exact .inl (key p (by simp [hp]))
      · exact .inr (.inr hp)
      · exact .inl (key p (by simp [hp]))
      · rcases hh2 with e2 | e2
        · rw [e2] at hp; exact .inl (key p (by simp [hp]))
        · rw [e2] at hp; exact .inr (.inl hp)
      · exact .inl (key p (by simp [hp]))
  · obtain ⟨M, hM⟩ := frag_split b rb
    have hnf : (M ++ keys rb.h).Nodup := by rw [← hM b.x rb.h]; exact hnf
    have dj' : ∀ k ∈ keys hand', k ∉ M ++ keys rb.h := by rw [← hM b.x rb.h]; exact dj
    have hgoal := hM (cput b.t b.x q y) (A1 ++ (b', .cells (pre ++ c2 ++ post).toArray e) :: A2 ++ h2 ++ B)
    rw [hgoal]
    rw [n2, p0] at hnf dj'
    have e1 : keys (A1 ++ (b', .cells (pre ++ c2 ++ post).toArray e) :: A2 ++ h2 ++ B) = (keys A1 ++ b' :: keys A2) ++ keys h2 ++ keys B := by simp [keys]
    have e2 : keys (A1 ++ (b', .cells cc e) :: A2 ++ h1 ++ B) = (keys A1 ++ b' :: keys A2) ++ keys h1 ++ keys B := by simp [keys]
    rw [e1]; rw [e2] at hnf dj'
    refine nodup_mid hnf ?_ ?_
    · rcases hh2 with e | e <;> rw [e]
      · exact ndh1
      · exact ndh
    · rcases hh2 with e | e
      · exact .inl (by rw [e])
      · refine .inr fun x hx => ?_
        rw [e] at hx
        have := dj' x hx
        simp only [List.mem_append, not_or] at this ⊢
        exact ⟨this.1, this.2.1.1, this.2.2⟩
  · exact p3 _ Im gr y c2 h2 (hrep _ gr)
theorem Inv.spare (h : Inv G st vs w Im R hand) {r : Nat} {b : Bx} {rb : RB} (hr : R r = some (b, rb)) {q : Path} (hv : Valid b.t b.x b.m q) (h0 : lev q ≠ 0) {u : Value} {ad : Option (Nat × Nat)} (hn : nav w b.t rb.cs (locOf b rb) q = some ([u], ad))
    {bk : Nat} {cN : Array Value} (hrep : ∀ h1, Rep w Im (ctype b.t q) (mget b.m q) (cget b.t b.x q) [u] h1 → (∀ p ∈ h1, p ∈ fragOf b rb) → ∃ c0 el, h1 = [(bk, .cells c0 el)] ∧ ∀ w', Grow w w' Im Im → Rep w' Im (ctype b.t q) (mget b.m q) (cget b.t b.x q) [u] [(bk, .cells cN el)]) :
    ∃ rbN, rbN.cs = rb.cs ∧ locOf b rbN = locOf b rb ∧ ∀ st', (∀ j, bget st'.boxes j = bget st.boxes j) → st'.slots = st.slots.map (kill1 r) →
        Inv G st' vs (w.setRow bk cN) Im (fun j => if j = r then some (b, rbN) else R j) hand := by
  obtain ⟨cs', ad', A, h1, B, n1, n2, n3, n4, n5⟩ := focus q (ad := locOf b rb) hv (h.rep r b rb hr) (fun p hp => h.heapOK hr p (fragOf_sub p hp)) (h.nodup' hr)
  rw [hn] at n1
  simp only [Option.some.injEq, Prod.mk.injEq] at n1
  obtain ⟨rfl, rfl⟩ := n1
  obtain ⟨c0, el, rfl, hrep⟩ := hrep h1 n3 (fun p hp => fragOf_sub p (by rw [n2]; simp [hp]))
  obtain ⟨A1, A2, b2, cc, e, pre, post, p0, p1, p2, p3, p4⟩ := n5 h0
  have hnf := h.nodup hr
  have hin : (bk, .cells c0 el) ∈ rb.h := by rw [n2]; simp
  have hh0 : w.heap[bk]? = some (.cells c0 el (0, 0)) := h.heapOK hr _ (fragOf_sub _ hin)
  have gr : Grow w (w.setRow bk cN) Im Im := ⟨fun _ h => h, fun k hk => setRow_other _ _ _ _ (by
    rintro rfl; exact h.sep.im (r + 1) _ (by rw [own_at hr]; exact keys_mem.2 ⟨_, fragOf_sub _ hin, rfl⟩) hk)⟩
  have ecc : (pre ++ [u] ++ post).toArray = cc := by rw [← p1]
  have hk2 : keys (A ++ [(bk, .cells cN el)] ++ B) = keys rb.h := by rw [n2]; simp [keys]
  refine ⟨{ rb with h := A ++ [(bk, .cells cN el)] ++ B }, rfl, rfl, fun st' hbox hsl => ?_⟩
  have h' : Inv G st vs w Im R (hand ++ []) := by rw [List.append_nil]; exact h
  refine h'.change (bN := b) (rbN := { rb with h := A ++ [(bk, .cells cN el)] ++ B }) (p := fun _ s q => decide (s = r) && !decide (lev q = 0)) hr (k0 := bk) (c0 := c0) (e0 := el)
    (fragOf_sub _ hin) ?_ ?_ ?_ (fun j => ?_) (by rw [hsl]; rfl) (shallow_hs (bN := b) (rbN := { rb with h := A ++ [(bk, .cells cN el)] ++ B }) hr rfl rfl rfl _)
  · intro p hp
    have hp' : p ∈ (match b.mem with | some ty => [((blkOf b rb), .cells rb.cs.toArray ty)] | none => []) ++ (A ++ [(bk, .cells cN el)] ++ B) := by
      unfold fragOf at hp; cases hmm : b.mem <;> simp only [hmm] at hp ⊢ <;> simpa [blkOf] using hp
    have hnh := h.nodup' hr
    rw [n2] at hnh
    simp only [keys_append] at hnh
    have hb1 : bk ∈ keys [(bk, .cells c0 el)] := by simp [keys]
    rcases List.mem_append.1 hp' with hp | hp
    · have hf : p ∈ fragOf b rb := by unfold fragOf; cases hmm : b.mem <;> simp only [hmm] at hp ⊢ <;> simp at hp; rw [hp]; exact List.mem_cons_self ..
      refine .inl ⟨hf, fun ek => ?_⟩
      rw [fragOf_keys] at hnf
      cases hmm : b.mem with
      | none => rw [hmm] at hp; simp at hp
      | some ty =>
        rw [hmm] at hp hnf; simp at hp hnf
        rw [hp] at ek
        exact hnf.1 (by have ek : (blkOf b rb) = bk := ek; rw [ek]; exact keys_mem.2 ⟨_, hin, rfl⟩)
    · simp only [List.mem_append, List.mem_singleton] at hp
      rcases hp with (hp | hp) | hp
      · refine .inl ⟨fragOf_sub p (by rw [n2]; simp [hp]), fun ek => ?_⟩
        exact (List.nodup_append.1 (List.nodup_append.1 hnh).1).2.2 bk (keys_mem.2 ⟨p, hp, ek⟩) bk hb1 rfl
      · exact .inr (.inr hp)
      · refine .inl ⟨fragOf_sub p (by rw [n2]; simp [hp]), fun ek => ?_⟩
        exact (List.nodup_append.1 hnh).2.2 bk (List.mem_append_right _ hb1) bk (keys_mem.2 ⟨p, hp, ek⟩) rfl
  · obtain ⟨M, hM⟩ := frag_split b rb
    have hnf : (M ++ keys rb.h).Nodup := by rw [← hM b.x rb.h]; exact hnf
    have hgoal := hM b.x (A ++ [(bk, .cells cN el)] ++ B)
    rw [hk2] at hgoal
    rw [← hgoal] at hnf
    exact hnf
  · have := p3 _ Im gr (cget b.t b.x q) [u] _ (hrep _ gr)
    rw [cput_cget' q hv, ecc] at this
    rw [p0]
    exact this
  · rw [hbox j]
    by_cases ej : j = r
    · subst ej; rw [if_pos rfl]
      have := h.box j
      rw [hr] at this
      simpa using this
    · rw [if_neg ej]
theorem nest_run {t tx ty e : TypeId} {te : TE} {i : TypeInfo} (hk : P.underlying t = some (.slice e)) (hi : InfoOk P e te i) (hz : te.z = true) (h : Inv G st vs w Im R []) {r : Nat} {b : Bx} {rb : RB} (hr : R r = some (b, rb)) {q : Path} (hv : Valid b.t b.x b.m q) (h0 : lev q ≠ 0) {u : Value} {b' off : Nat}
    (hn : nav w b.t rb.cs (locOf b rb) q = some ([u], some (b', off))) (ht : ctype b.t q = .slc te.ty) {m' : Md} (hm : mget b.m q = .own m') (hf : flat te.ty = true) {ys : List (den te.ty)} {v2 : Value} {news : List Value} (src : Src P (sz te.ty) tx v2 ys.length news w)
    (r2 : RepL (fun x cs h => Rep w Im te.ty m' x cs h) ys news []) (hys : 0 < ys.length) (hmost : ((ht ▸ cget b.t b.x q : den (.slc te.ty)).length + ys.length) * te.bytes ≤ most) (hby : 0 < te.bytes) :
    ∃ v' w1, (Builtin.append_ #[t, tx] ty #[u, v2]).run P w = .ok v' w1 ∧ (∃ A n c, v' = .slice A n c) ∧ ∃ cur el R', w1.heap[b']? = some (.cells cur el (0, 0)) ∧ off + 1 ≤ cur.size ∧
      ∀ st', (∀ j, bget st'.boxes j = if j = r then some { b with x := cput b.t b.x q (ht.symm ▸ ((ht ▸ cget b.t b.x q : den (.slc te.ty)) ++ ys) : den (ctype b.t q)) } else bget st.boxes j) → st'.slots = st.slots.map (kill1 r) →
        Inv G st' vs (w1.setRow b' (cur.toList.take off ++ [v'] ++ cur.toList.drop (off + 1)).toArray) Im R' [] := by
  obtain ⟨cs', ad', A, h1, B, n1, n2, n3, _, _⟩ := focus q (ad := locOf b rb) hv (h.rep r b rb hr) (fun p hp => h.heapOK hr p (fragOf_sub p hp)) (h.nodup' hr)
  rw [hn] at n1
  simp only [Option.some.injEq, Prod.mk.injEq] at n1
  obtain ⟨rfl, rfl⟩ := n1
  have n3' := n3.cast ht
  rw [hm] at n3'
  obtain ⟨xs, hxs⟩ : ∃ xs : List (den te.ty), (ht ▸ cget b.t b.x q : den (.slc te.ty)) = xs := ⟨_, rfl⟩
  rw [hxs] at n3' hmost ⊢
  obtain ⟨z, hz1, hz2⟩ := hi.zero hz
  have hnl := src.newsLen
  have hsz1 : sz (ctype b.t q) = 1 := by rw [ht]; rfl
  have hlen63 : xs.length + ys.length ≤ 140737488355328 := by
    have : (xs.length + ys.length) * 1 ≤ (xs.length + ys.length) * te.bytes := Nat.mul_le_mul_left _ hby
    have e1 : most = 140737488355328 := rfl
    omega
  have hnn : ∀ (w : World) (x : den te.ty) (c : List Value) (h : Frag), Rep w Im te.ty m' x c h → c.length = sz te.ty := fun _ _ _ _ r => r.len
  have grow : ∀ {A : Option Addr} {cap : Nat} {olds : List Value}, u = .slice A xs.length cap → cap < xs.length + ys.length →
      (Builtin.firstCells i.size xs.length (.slice A xs.length cap)).run P w.drew = .ok olds.toArray w.drew → olds.length = xs.length * sz te.ty →
      RepL (fun x cs h => Rep w Im te.ty m' x cs h) xs olds [] →
      ∃ v' w1, (Builtin.append_ #[t, tx] ty #[u, v2]).run P w = .ok v' w1 ∧ (∃ A n c, v' = .slice A n c) ∧ ∃ cur el R', w1.heap[b']? = some (.cells cur el (0, 0)) ∧ off + 1 ≤ cur.size ∧
      ∀ st', (∀ j, bget st'.boxes j = if j = r then some { b with x := cput b.t b.x q (ht.symm ▸ (xs ++ ys) : den (ctype b.t q)) } else bget st.boxes j) → st'.slots = st.slots.map (kill1 r) →
        Inv G st' vs (w1.setRow b' (cur.toList.take off ++ [v'] ++ cur.toList.drop (off + 1)).toArray) Im R' [] := by
    intro A cap olds e1 hg hold hol hr1
    subst e1
    rw [← hi.size] at src
    have hrun := run_append_grow_src (P := P) w t tx ty e i z hk hi.info hz1 A xs.length cap olds hold v2 ys.length news src hg (by omega) (growslice_fits hg (by rw [hi.bytes]; exact hmost))
    have hge := grownCap_ge w (xs.length + ys.length) cap e
    have hcm := grownCap_le_maxLen w (xs.length + ys.length) cap e (by simp only [maxLen]; omega)
    have h3 := h.drew.alloc ((olds ++ news).toArray ++ Builtin.zeroCells z.cells (grownCap w (xs.length + ys.length) cap e - (xs.length + ys.length))) e
    have g : Grow w (w.drew.alloc (.cells ((olds ++ news).toArray ++ Builtin.zeroCells z.cells (grownCap w (xs.length + ys.length) cap e - (xs.length + ys.length))) e)) Im Im :=
      ⟨fun _ h => h, fun b hb => Go.heap_alloc_old w.drew _ (h.sep.imlt b hb)⟩
    have hrep : Rep (w.drew.alloc (.cells ((olds ++ news).toArray ++ Builtin.zeroCells z.cells (grownCap w (xs.length + ys.length) cap e - (xs.length + ys.length))) e)) Im (.slc te.ty) (.own m') (xs ++ ys)
        [.slice (some ⟨w.heap.size, 0, none⟩) (xs.length + ys.length) (grownCap w (xs.length + ys.length) cap e)] [(w.heap.size, .cells ((olds ++ news).toArray ++ Builtin.zeroCells z.cells (grownCap w (xs.length + ys.length) cap e - (xs.length + ys.length))) e)] := by
      refine .inr ⟨w.heap.size, 0, _, e, _, [], by simp, rfl, by simpa using hge, hcm, ?_, ?_⟩
      · have hzs : z.cells.size = sz te.ty := by rw [← zcells_len, ← hz2]; simp
        simp only [Array.size_append, List.size_toArray, size_zeroCells, hzs, List.length_append, hol, hnl, ← Nat.add_mul]
        rw [Nat.zero_add]
        exact Nat.mul_le_mul_right _ (by omega)
      · have k1 : RepL (fun x cs h => Rep (w.drew.alloc (.cells ((olds ++ news).toArray ++ Builtin.zeroCells z.cells (grownCap w (xs.length + ys.length) cap e - (xs.length + ys.length))) e)) Im te.ty m' x cs h) xs olds [] := hr1.mono (fun _ _ _ r => r.grow g)
        have k2 := r2.mono (fun _ _ _ r => Rep.grow g r)
        simp only [Array.toList_append, List.drop_zero]
        refine RepL.app (n := sz te.ty) (cs := olds) (h := []) (k := []) (fun _ _ _ r => r.len) k1 ?_ ?_
        · rw [← hol]
          have : ((olds ++ news) ++ (Builtin.zeroCells z.cells (grownCap w (xs.length + ys.length) cap e - (xs.length + ys.length))).toList).drop olds.length = news ++ (Builtin.zeroCells z.cells (grownCap w (xs.length + ys.length) cap e - (xs.length + ys.length))).toList := by simp
          rw [this]
          exact RepL.cut (n := sz te.ty) (fun _ _ _ r => r.len) k2 (by rw [← hnl]; simp)
        · rw [← hol]; simp
    have hn1 : nav (w.drew.alloc (.cells ((olds ++ news).toArray ++ Builtin.zeroCells z.cells (grownCap w (xs.length + ys.length) cap e - (xs.length + ys.length))) e)) b.t rb.cs (locOf b rb) q = some ([.slice A xs.length cap], some (b', off)) := by
      rw [nav_frame q hv (h.rep r b rb hr) (fun p hp => h.heapOK hr p (fragOf_sub p hp)) (fun k hk' => Go.heap_alloc_old w.drew _ (h.sep.lt (i := r + 1) (by rw [own_at hr]; obtain ⟨p, hp, e⟩ := keys_mem.1 hk'; exact keys_mem.2 ⟨p, fragOf_sub p hp, e⟩)))]
      exact hn
    have hrep' := hrep.cast ht.symm
    rw [← hm] at hrep'
    obtain ⟨cur, el, R', k1, k2, k3⟩ := h3.putDeep hr hv h0 hn1 (y := (ht.symm ▸ (xs ++ ys) : den (ctype b.t q))) (c2 := [.slice (some ⟨w.heap.size, 0, none⟩) (xs.length + ys.length) (grownCap w (xs.length + ys.length) cap e)]) (by rw [hsz1]; rfl)
      (fun _ _ _ => ⟨_, .inr rfl, fun w' g' => hrep'.grow g'⟩)
    exact ⟨_, _, hrun, ⟨_, _, _, rfl⟩, cur, el, R', k1, k2, k3⟩
  rcases n3' with ⟨e0, ⟨A0, e1⟩, e2⟩ | ⟨bk, o, c, eb, cap, g1, e1, e2, e3, e4, e5, e6⟩
  · simp only [List.cons.injEq, and_true] at e1
    refine grow (A := A0) (cap := 0) (olds := []) (by rw [e0, e1]; rfl) (by omega) ?_ (by rw [e0]; simp) (by rw [e0]; rfl)
    rw [e0]
    cases A0 with
    | none => exact run_firstCells_none w.drew _ 0 0 0
    | some a => exact run_firstCells_some w.drew _ 0 a 0 0 [] (by simp) (fun j u hu => by simp at hu)
  · simp only [List.cons.injEq, and_true] at e1
    obtain ⟨eg, e6f⟩ := flat_rows (w' := w) (Im' := Im) (m' := m') hf e6
    subst eg
    have hh0 : w.heap[bk]? = some (.cells c eb (0, 0)) := h.heapOK hr (bk, .cells c eb) (fragOf_sub _ (by rw [n2, e2]; simp))
    have hl6 := e6.len (n := sz te.ty) (fun _ _ _ r => r.len)
    by_cases hroom : xs.length + ys.length ≤ cap
    · have hle : o + xs.length * sz te.ty + news.length ≤ c.size := by
        rw [hnl]
        have := Nat.mul_le_mul_right (sz te.ty) hroom
        rw [Nat.add_mul] at this; omega
      have src0 := src
      rw [← hi.size] at src
      have hrun := run_append_room_row (P := P) (w := w) t tx ty e i hk hi.info bk o xs.length cap v2 ys.length news src hroom hh0 (by rw [hi.size]; exact hle)
      rw [hi.size, ← e1] at hrun
      obtain ⟨cN, hcN⟩ : ∃ cN, (c.toList.take (o + xs.length * sz te.ty) ++ news ++ c.toList.drop (o + xs.length * sz te.ty + news.length)).toArray = cN := ⟨_, rfl⟩
      rw [hcN] at hrun
      have hdrop : cN.toList.drop o = (c.toList.drop o).take (xs.length * sz te.ty) ++ (news ++ c.toList.drop (o + xs.length * sz te.ty + news.length)) := by
        rw [← hcN]
        simp only [List.append_assoc]
        rw [List.drop_append_of_le_length (by simp; omega), List.drop_take, Nat.add_sub_cancel_left]
      have hszN : cN.size = c.size := by rw [← hcN]; simp; omega
      have hxl : ((c.toList.drop o).take (xs.length * sz te.ty)).length = xs.length * sz te.ty := by rw [List.length_take]; omega
      have rowX : ∀ w', RepL (fun x cs h => Rep w' Im te.ty m' x cs h) xs (cN.toList.drop o) [] := fun w' =>
        RepL.cut (n := sz te.ty) (fun _ _ _ r => r.len) (flat_rows (w' := w') (Im' := Im) (m' := m') hf e6).2 (by rw [hdrop, List.take_append_of_le_length (by omega), List.take_take, Nat.min_self])
      have rowXY : ∀ w', RepL (fun x cs h => Rep w' Im te.ty m' x cs h) (xs ++ ys) (cN.toList.drop o) [] := fun w' => by
        refine RepL.app (n := sz te.ty) (h := []) (k := []) (fun _ _ _ r => r.len) (flat_rows (w' := w') (Im' := Im) (m' := m') hf e6).2 ?_ (by rw [hdrop, List.take_append_of_le_length (by omega), List.take_take, Nat.min_self])
        have e8 : (cN.toList.drop o).drop (xs.length * sz te.ty) = news ++ c.toList.drop (o + xs.length * sz te.ty + news.length) := by
          rw [hdrop, List.drop_append_of_le_length (by omega), List.drop_of_length_le (by omega)]; simp
        rw [e8]
        exact RepL.cut (n := sz te.ty) (fun _ _ _ r => r.len) (flat_rows (w' := w') (Im' := Im) (m' := m') hf r2).2 (by rw [← hnl]; simp)
      have headOf : ∀ {w' : World} {h1 : Frag} {y : den (ctype b.t q)}, (ht ▸ y : den (.slc te.ty)) = xs → Rep w' Im (ctype b.t q) (mget b.m q) y [u] h1 → ∃ c0 el, h1 = [(bk, .cells c0 el)] := by
        intro w' h1 y ey hrep
        have hrep := hrep.cast ht
        rw [hm, ey] at hrep
        rcases hrep with ⟨f0, _⟩ | ⟨bk2, o2, c2, eb2, cap2, g2, f1, f2, _, _, _, f6⟩
        · -- no elements, yet room for some: the header has none
          rename_i ff
          obtain ⟨⟨A0, f1⟩, _⟩ := ff
          rw [e1] at f1
          simp only [List.cons.injEq, and_true, Value.slice.injEq] at f1
          omega
        · rw [e1] at f1
          simp only [List.cons.injEq, and_true, Value.slice.injEq, Option.some.injEq, Addr.mk.injEq] at f1
          obtain ⟨eg, _⟩ := flat_rows (w' := w) (Im' := Im) (m' := m') hf f6
          subst eg
          exact ⟨c2, eb2, by rw [f2, f1.1.1]⟩
      obtain ⟨rbN, q1, q2, hsp⟩ := h.spare hr hv h0 hn (bk := bk) (cN := cN) (fun h1 rep sub => by
        obtain ⟨c0, el, rfl⟩ := headOf hxs rep
        refine ⟨c0, el, rfl, fun w' g' => ?_⟩
        have hrN : Rep w' Im (.slc te.ty) (.own m') xs [u] [(bk, .cells cN el)] := .inr ⟨bk, o, cN, el, cap, [], by rw [e1], rfl, e3, e4, by rw [hszN]; exact e5, rowX w'⟩
        have := hrN.cast ht.symm
        rw [← hm] at this
        have e9 : (ht.symm ▸ xs : den (ctype b.t q)) = cget b.t b.x q := by rw [← hxs]; exact cast_back ht _
        rw [e9] at this
        exact this)
      have hI1 := hsp { st with slots := st.slots.map (kill1 r) } (fun _ => rfl) rfl
      have hr1 : (fun j => if j = r then some (b, rbN) else R j) r = some (b, rbN) := by simp
      have hn1 : nav (w.setRow bk cN) b.t rbN.cs (locOf b rbN) q = some ([u], some (b', off)) := by
        rw [q1, q2]
        rw [e1] at hn
        rw [nav_above q hv (h.rep r b rb hr) (fun p hp => h.heapOK hr p (fragOf_sub p hp)) (h.nodup' hr) ht hm (by omega) hn (fun k _ hne => setRow_other _ _ _ _ hne), hn, e1]
      obtain ⟨cur, el, R', k1, k2, k3⟩ := Inv.putDeep (hand := []) (hand' := []) hI1 hr1 hv h0 hn1 (y := (ht.symm ▸ (xs ++ ys) : den (ctype b.t q))) (c2 := [.slice (some ⟨bk, o, none⟩) (xs.length + ys.length) cap]) (by rw [hsz1]; rfl)
        (fun h1 rep sub => by
          obtain ⟨c0, el, rfl⟩ := headOf hxs rep
          refine ⟨_, .inl rfl, fun w' g' => ?_⟩
          have hb1 : (w.setRow bk cN).heap[bk]? = some (.cells c0 el (0, 0)) := hI1.heapOK hr1 (bk, .cells c0 el) (sub _ (List.mem_cons_self ..))
          have hb2 : (w.setRow bk cN).heap[bk]? = some (.cells cN eb (0, 0)) := setRow_heap w bk c cN eb (0, 0) hh0
          rw [hb1] at hb2
          simp only [Option.some.injEq, Obj.cells.injEq] at hb2
          have ec : c0 = cN := hb2.1
          have hrN : Rep w' Im (.slc te.ty) (.own m') (xs ++ ys) [.slice (some ⟨bk, o, none⟩) (xs.length + ys.length) cap] [(bk, .cells c0 el)] := .inr ⟨bk, o, c0, el, cap, [], by simp, rfl, by simpa using hroom, e4, by rw [ec, hszN]; exact e5, by rw [ec]; exact rowXY w'⟩
          have := hrN.cast ht.symm
          rw [← hm] at this
          exact this)
      refine ⟨_, _, hrun, ⟨_, _, _, rfl⟩, cur, el, R', k1, k2, fun st' hb hs => k3 st' hb ?_⟩
      rw [hs]
      show _ = (st.slots.map (kill1 r)).map (kill1 r)
      rw [List.map_map]
      congr 1; funext s
      exact (forget_forget _ s).symm
    · refine grow (A := some ⟨bk, o, none⟩) (cap := cap) (olds := (c.toList.drop o).take (xs.length * sz te.ty)) e1 (by omega) ?_ ?_ ?_
      · refine run_firstCells_some w.drew _ _ _ _ _ _ (by rw [List.length_take, hi.size]; omega) (fun j u hu => ?_)
        have hj : j < xs.length * sz te.ty := by
          have := (List.getElem?_eq_some_iff.1 hu).1
          rw [List.length_take] at this; omega
        rw [List.getElem?_take_of_lt hj, List.getElem?_drop] at hu
        rw [add_at]
        have : w.drew.heap[bk]? = some (.cells c eb (0, 0)) := hh0
        simp only [World.cell?, this]
        simpa using hu
      · rw [List.length_take]; omega
      · exact e6f.cut (fun _ _ _ r => r.len) (by rw [List.take_take, Nat.min_self])
theorem calm_some {c : Cx} (hE : EnvOk P c.E) (h : Inv G st a.tmps w Im R []) {d : Nat} {oa : Oper} (hc : calm d oa o = true) (hk : stepS c st o K = some r0) :
    ∃ v s, K (st.set o.dst s) = some r0 ∧ SVV w Im R s v ∧ ∀ (a' : Act) w2, (∀ x ∈ rd o, a'.eval x = a.eval x) → (execOp a'.eval o).run P w2 = .ok (.value v) w2 := by
  have hop : (match o.op with | .move _ => true | .nilCheck _ => true | .fieldAddr .. => true | .indexAddr .. => true | _ => false) = true := by
    unfold calm at hc; simp only [Bool.and_eq_true] at hc; exact hc.2
  unfold stepS at hk
  unfold rd
  split at hop
  · rename_i x ho
    simp only [ho] at hk ⊢
    exact ⟨a.eval x, st.ev x, hk, h.ev x, fun a' w2 he => by simp [execOp, ho, he x (by simp)]⟩
  · rename_i x ho
    simp only [ho] at hk ⊢
    have hx := h.ev x
    split at hk
    · rename_i r q hxe
      rw [hxe] at hx
      split at hk
      · rename_i hb
        obtain ⟨b, hb⟩ := Option.isSome_iff_exists.1 hb
        obtain ⟨rb, hr⟩ := h.real hb
        obtain ⟨u, e1, hp⟩ := hx.cell (by simp) (by simp) (by simp) rfl
        simp at e1
        obtain ⟨_, cs, b', o', _, hu⟩ := hp b rb hr
        exact ⟨a.eval x, _, hk, hx, fun a' w2 he => by simp [execOp, ho, he x (by simp), e1, hu]⟩
      · cases hk
    · rename_i t z hxe
      rw [hxe] at hx
      obtain ⟨b', o', c', e', fz, e1, _⟩ := hx.cell (by simp) (by simp) (by simp) rfl
      simp at e1
      exact ⟨a.eval x, _, hk, hx, fun a' w2 he => by simp [execOp, ho, he x (by simp), e1]⟩
    · rename_i f cs hxe
      rw [hxe] at hx
      obtain ⟨caps, e1, _⟩ := hx.cell (by simp) (by simp) (by simp) rfl
      simp at e1
      exact ⟨a.eval x, _, hk, hx, fun a' w2 he => by simp [execOp, ho, he x (by simp), e1]⟩
    · cases hk
  · rename_i t x f ho
    simp only [ho] at hk ⊢
    split at hk
    · rename_i te ht
      split at hk
      · rename_i fl hdd
        obtain ⟨s', z, k1, k2, k3⟩ := fieldAddr_some hE h ht hdd hk (h.ev x)
        exact ⟨z, s', k1, k3, fun a' w2 he => by simp [execOp, ho, he x (by simp), k2, Result.andThen]⟩
      · cases hk
    · cases hk
  · rename_i t x i ho
    simp only [ho] at hk ⊢
    split at hk
    · rename_i te ht
      split at hk
      · rename_i e hdd
        obtain ⟨k, n, e1, hk⟩ := asInt_some hk
        have ei : a.eval i = .int k n := (e1 ▸ h.ev i : SVV w Im R (.con (.int k) n) (a.eval i)).int
        obtain ⟨s', z, k1, k2, k3⟩ := elem_some hE h ht hdd (k := k) hk (h.ev x)
        exact ⟨z, s', k1, k3, fun a' w2 he => by simp [execOp, ho, he x (by simp), he i (by simp), ei, k2, Result.andThen]⟩
      · rename_i e hdd
        unfold litAt at hk
        split at hk
        · rename_i k n
          split at hk
          · rename_i hn
            obtain ⟨s', z, k1, k2, k3⟩ := arrAddr_some hE h ht hdd hn k hk (h.ev x)
            exact ⟨z, s', k1, k3, fun a' w2 he => by
              have ei : a'.eval (.const (.int k n)) = .int k n := rfl
              simp [execOp, ho, he x (by simp), ei, k2, Result.andThen]⟩
          · cases hk
        · cases hk
      · cases hk
    · cases hk
  · cases hop
theorem isTmp_ne {d : Nat} {x : Operand} (h : isTmp d x = false) : x ≠ .tmp d := by
  rintro rfl; simp [isTmp] at h
theorem any_isTmp {d : Nat} {l : List Operand} (h : (!l.any (isTmp d)) = true) : ∀ x ∈ l, x ≠ .tmp d := by
  intro x hx
  simp only [Bool.not_eq_true', List.any_eq_false] at h
  exact isTmp_ne (by simpa using h x hx)
theorem samePath_some {R : Type} {K : Option R} {r : R} : ∀ {q' q : Path}, samePath q' q K = some r → q' = q ∧ K = some r
  | [], [], h => ⟨rfl, h⟩
  | .fst :: a, .fst :: b, h => by obtain ⟨e, h⟩ := samePath_some (q' := a) (q := b) h; exact ⟨by rw [e], h⟩
  | .snd :: a, .snd :: b, h => by obtain ⟨e, h⟩ := samePath_some (q' := a) (q := b) h; exact ⟨by rw [e], h⟩
  | .idx i :: a, .idx j :: b, h => by
    simp only [samePath] at h
    split at h
    · rename_i e; subst e
      obtain ⟨e, h⟩ := samePath_some (q' := a) (q := b) h; exact ⟨by rw [e], h⟩
    · cases h
  | [], .fst :: _, h => by simp [samePath] at h
  | [], .snd :: _, h => by simp [samePath] at h
  | [], .idx _ :: _, h => by simp [samePath] at h
  | .fst :: _, [], h => by simp [samePath] at h
  | .snd :: _, [], h => by simp [samePath] at h
  | .idx _ :: _, [], h => by simp [samePath] at h
  | .fst :: _, .snd :: _, h => by simp [samePath] at h
  | .fst :: _, .idx _ :: _, h => by simp [samePath] at h
  | .snd :: _, .fst :: _, h => by simp [samePath] at h
  | .snd :: _, .idx _ :: _, h => by simp [samePath] at h
  | .idx _ :: _, .fst :: _, h => by simp [samePath] at h
  | .idx _ :: _, .snd :: _, h => by simp [samePath] at h
theorem calm_list {c : Cx} (hE : EnvOk P c.E) {ops : Array Oper} {d : Nat} {oa : Oper} {F : St → Option T} : ∀ (l : List Nat), (∀ i ∈ l, ∃ o, ops[i]? = some o ∧ calm d oa o = true) → ∀ {st : St} {a : Act}, Inv G st a.tmps w Im R [] → opsS c ops l st F = some r0 →
    ∃ (st2 : St) (a2 : Act), F st2 = some r0 ∧ Inv G st2 a2.tmps w Im R [] ∧ a2.defers = a.defers ∧ (∀ x ∈ rd oa, a2.eval x = a.eval x) ∧
      ∀ vd w1 rest Q, wpOps P ops Q rest (a2.put (some d) vd) w1 → wpOps P ops Q (l ++ rest) (a.put (some d) vd) w1
  | [], _, st, a, h, hk => ⟨st, a, hk, h, rfl, fun _ _ => rfl, fun _ _ _ _ h => h⟩
  | i :: l, hl, st, a, h, hk => by
    obtain ⟨o, ho, hc⟩ := hl i (List.mem_cons_self ..)
    have hc0 := hc
    unfold calm at hc
    simp only [Bool.and_eq_true] at hc
    obtain ⟨⟨⟨hg, hd⟩, hrd⟩, _⟩ := hc
    have hg : o.guard = none := by simpa using hg
    obtain ⟨e, he, hne, hra⟩ : ∃ e, o.dst = some e ∧ e ≠ d ∧ (!(rd oa).any (isTmp e)) = true := by
      cases hdd : o.dst with
      | none => rw [hdd] at hd; cases hd
      | some e => rw [hdd] at hd; simp only [Bool.and_eq_true] at hd; exact ⟨e, rfl, by simpa using hd.1, hd.2⟩
    simp only [opsS, ho, hg] at hk
    obtain ⟨v, s, hk, hs, hex⟩ := calm_some hE h hc0 hk
    obtain ⟨st2, a2, k1, k2, k3, k4, k5⟩ := calm_list hE l (fun j hj => hl j (List.mem_cons_of_mem _ hj)) (h.put o.dst hs) hk
    refine ⟨st2, a2, k1, k2, by rw [k3, put_defers], fun x hx => ?_, fun vd w1 rest Q hw => ?_⟩
    · rw [k4 x hx, he]
      exact Act.eval_put (fun d' hd' => by cases hd'; exact any_isTmp hra x hx)
    · rw [List.cons_append, wpOps_cons]
      unfold wpOp
      simp only [ho]
      rw [if_pos (by simp [Region.wanted, hg])]
      left
      unfold Oper.wp
      rw [hex (a.put (some d) vd) w1 (fun x hx => Act.eval_put (fun d' hd' => by cases hd'; exact any_isTmp hrd x hx))]
      show wpOps P ops Q (l ++ rest) ((a.put (some d) vd).put o.dst v) w1
      rw [Act.put_comm _ _ _ (fun d' hd' => by cases hd'; rw [he]; intro h; cases h; exact hne rfl)]
      exact k5 vd w1 rest Q hw
theorem nest_some {c : Cx} (hE : EnvOk P c.E) (hd : a.defers = []) (hI : ∀ b, I0 b → Im b) {ops : Array Oper} {k : Nat} (hok : nestOk ops k = true) (h : Inv G st a.tmps w Im R []) (hk : nestS c ops k st K = some r0)
    (hQ : ∀ a w, Post G I0 K r0 a w → Q .normal a w) : wpOps P ops Q (k :: ((List.range (ops.size - 2 - k)).map (k + 1 + ·) ++ [ops.size - 1])) a w := by
  unfold nestOk at hok
  unfold nestS at hk
  cases hoa : ops[k]? with
  | none => rw [hoa] at hk; cases hk
  | some oa =>
    cases hos : ops[ops.size - 1]? with
    | none => rw [hoa, hos] at hk; cases hk
    | some os =>
      simp only [hoa, hos] at hk hok
      split at hk
      case h_2 => cases hk
      rename_i d ee x y te adr yy hap hst
      simp only [Bool.and_eq_true] at hok
      obtain ⟨⟨⟨⟨hk1, hga⟩, hgs⟩, hds⟩, hok⟩ := hok
      have hga : oa.guard = none := by simpa using hga
      have hgs : os.guard = none := by simpa using hgs
      have hds : os.dst = none := by simpa using hds
      -- the append
      obtain ⟨cl, t, tt, e, ho, hc, harg, hty, hdst, htt, hdd, hee, hz⟩ : ∃ (cl : Call) (t : TypeId) (tt : TE) (e : TypeId), oa.op = .call cl ∧ cl.callee = .builtin .append ∧ cl.args = #[x, y] ∧ cl.argTypes = #[t, t] ∧ oa.dst = some d ∧ c.E.get t = some tt ∧ tt.d = .slc e ∧ c.E.get e = some ee ∧ ee.z = true := by
        unfold appArgs at hap
        split at hap
        · split at hap <;> cases hap
        · rename_i cl ho
          split at hap
          · rename_i x' y' t u hc ha ht
            split at hap
            · rename_i d' hd
              split at hap
              · rename_i htu
                subst htu
                split at hap
                · rename_i te hte
                  split at hap
                  · rename_i e hdd
                    split at hap
                    · rename_i ee' hee
                      split at hap
                      · rename_i hz
                        cases hap
                        exact ⟨cl, t, te, e, ho, hc, by rw [← Array.toArray_toList (xs := cl.args), ha], by rw [← Array.toArray_toList (xs := cl.argTypes), ht], hd, hte, hdd, hee, hz⟩
                      · cases hap
                    · cases hap
                  · cases hap
                · cases hap
              · repeat' (first | (cases hap; done) | split at hap)
            · cases hap
          · split at hap
            · split at hap
              · split at hap <;> cases hap
              · cases hap
            · cases hap
          · cases hap
        · cases hap
      obtain ⟨tid, hos2, hte⟩ : ∃ tid, os.op = .store tid adr yy ∧ c.E.get tid = some te := by
        unfold appArgs at hst
        split at hst
        · rename_i t' a' v' ho'
          split at hst
          · rename_i te' hte'
            cases hst
            exact ⟨t', ho', hte'⟩
          · cases hst
        · split at hst
          · split at hst
            · split at hst
              · split at hst
                · split at hst
                  · split at hst
                    · split at hst <;> cases hst
                    · cases hst
                  · cases hst
                · cases hst
              · repeat' (first | (cases hst; done) | split at hst)
            · cases hst
          · split at hst
            · split at hst
              · split at hst <;> cases hst
              · cases hst
            · cases hst
          · cases hst
        · cases hst
      rw [hdst] at hok
      simp only [hos2, Bool.and_eq_true] at hok
      obtain ⟨⟨⟨_, hrda⟩, hyy, hadr⟩, hmid⟩ := hok
      have erd : rd oa = [x, y] := by unfold rd; simp only [ho, hc, harg, List.nil_append]
      have hyd : yy = .tmp d := by
        cases yy <;> simp [isTmp] at hyy
        rw [hyy]
      have hadr : adr ≠ .tmp d := isTmp_ne (by simpa using hadr)
      obtain ⟨st2, a2, hk, h2, hdef, hev, hcont⟩ := calm_list (oa := oa) hE _ (fun i hi => by
        obtain ⟨j, hj, rfl⟩ := List.mem_map.1 hi
        have := List.all_eq_true.1 hmid j hj
        cases hoj : ops[k + 1 + j]? with
        | none => rw [hoj] at this; cases this
        | some o => rw [hoj] at this; exact ⟨o, rfl, this⟩) h hk
      split at hk
      case h_2 => cases hk
      rename_i r0' q0 r q hxe hae
      split at hk
      case isFalse => cases hk
      rename_i hcond
      obtain ⟨er, h0, hf, hag, htt2, hlen⟩ := hcond
      subst er
      obtain ⟨eq, hk⟩ := samePath_some hk
      subst eq
      -- what is appended to, and where it goes
      obtain ⟨u, eu, href⟩ := (hxe ▸ h2.ev x : SVV w Im R (.ref r q) (a2.eval x)).cell (by simp) (by simp) (by simp) rfl
      simp only [List.cons.injEq, and_true] at eu
      obtain ⟨pv, epv, hptr⟩ := (hae ▸ h2.ev adr : SVV w Im R (.ptr r q) (a2.eval adr)).cell (by simp) (by simp) (by simp) rfl
      simp only [List.cons.injEq, and_true] at epv
      have hne := look_ne0 hk
      obtain ⟨cs2, e1, hy⟩ := (CV.of (h2.ev y)) hne.1 hne.2.1 hne.2.2
      rw [if_neg (by simp [hag])] at e1
      subst e1
      obtain ⟨ys, hk, hrep2⟩ := look_some h2 hk hy
      split at hk
      case h_2 => cases hk
      rename_i b hb
      split at hk
      case isFalse => cases hk
      rename_i hct
      split at hk
      case h_2 => cases hk
      rename_i m' hm
      split at hk
      case isFalse => cases hk
      rename_i hbound
      obtain ⟨hpos, hmost, hby⟩ := hbound
      obtain ⟨rb, hr⟩ := h2.real hb
      obtain ⟨hv, _, ad, hnr⟩ := href b rb hr
      obtain ⟨_, cs3, b', off, hnp, hpv⟩ := hptr b rb hr
      rw [hnr] at hnp
      simp only [Option.some.injEq, Prod.mk.injEq] at hnp
      obtain ⟨rfl, rfl⟩ := hnp
      have hu := (hE.slc htt hdd).1
      obtain ⟨⟨i, hi⟩, _⟩ := hE e ee hee
      obtain ⟨news, g2, src, r2, hsub⟩ := src_of hu hrep2 (fun p hp => by simp at hp) (.inl ⟨rfl, rfl⟩)
      obtain ⟨eg, r2'⟩ := flat_rows (w' := w) (Im' := Im) (m' := m') hf r2
      obtain ⟨v', w1, hrun, ⟨A', n', c', hv'⟩, cur, el, R', k1, k2, k3⟩ := nest_run (ty := oa.type) (tx := t) hu hi hz h2 hr hv h0 hnr hct hm hf src r2' hpos hmost hby
      have ex : a.eval x = u := by rw [← hev x (by rw [erd]; simp)]; exact eu
      have ey : a.eval y = a2.eval y := (hev y (by rw [erd]; simp)).symm
      rw [wpOps_cons]
      unfold wpOp
      simp only [hoa]
      rw [if_pos (by simp [Region.wanted, hga])]
      left
      unfold Oper.wp
      have hex : (execOp a.eval oa).run P w = .ok (.value v') w1 := by
        simp [execOp, ho, resolve, invoke, builtin, hc, harg, hty, ex, ey, hrun, Result.andThen]
      rw [hex]
      show wpOps P ops Q _ (a.put oa.dst v') w1
      rw [hdst]
      refine hcont v' w1 _ Q ?_
      rw [wpOps_cons]
      unfold wpOp
      simp only [hos]
      rw [if_pos (by simp [Region.wanted, hgs])]
      left
      unfold Oper.wp
      have eadr : (a2.put (some d) v').eval adr = .pointer (some ⟨b', off, none⟩) := by
        rw [Act.eval_put (fun d' hd' => by cases hd'; exact hadr), epv, hpv]
      have eval : (a2.put (some d) v').eval yy = v' := by
        rw [hyd]
        exact Act.eval_put_same' a2 d v' (by rw [← h2.len]; exact hlen)
      have hst1 : (Instr.storeAt tid (.pointer (some ⟨b', off, none⟩)) v').run P w1 = .ok () (w1.setRow b' (cur.toList.take off ++ [v'] ++ cur.toList.drop (off + 1)).toArray) :=
        run_storeAt hE hte k1 (v := v') (cs := [v']) (by rw [hv']; rfl) (by rw [htt2]; rfl) (by intro u hu; simp at hu; subst hu; rw [hv']; rfl) k2
      have hex2 : (execOp (a2.put (some d) v').eval os).run P w1 = .ok .skip (w1.setRow b' (cur.toList.take off ++ [v'] ++ cur.toList.drop (off + 1)).toArray) := by
        unfold execOp
        simp only [hos2, eadr, eval, Sem.run_bind, hst1, Result.andThen_ok]; rfl
      rw [hex2]
      show wpOps P ops Q [] ((a2.put (some d) v').put os.dst Go.undef) _
      rw [hds]
      show Q .normal (a2.put (some d) v') _
      have h4 := k3 { slots := st2.slots.map (kill1 r), boxes := bset r { b with x := cput b.t b.x q (hct.symm ▸ ((hct ▸ cget b.t b.x q : den (.slc ee.ty)) ++ ys : List (den ee.ty)) : den (ctype b.t q)) } st2.boxes } (fun j => by rw [bget_bset]) rfl
      exact hQ _ _ ⟨_, hk, by rw [put_defers, hdef]; exact hd, Im, R', hI, h4.put (some d) (.ofAny v')⟩
end
end Go.Proofs.YtgdaiifhedpffaaDoor.V
set_option linter.unusedVariables false
set_option linter.unusedSimpArgs false
namespace Go.Proofs.YtgdaiifhedpffaaDoor.V
open Go
section
variable {G : Gl} {I0 : Nat → Prop} {st st2 : St} {vs : Array Value} {w : World} {Im : Nat → Prop} {R : Real} {hand : Frag} {a : Act}
theorem one_len {x : SV} {cs : List Value} (h : one x = true) (hx : SVX w Im R x false cs) : cs.length = 1 := by
  cases x with
  | undef => exact hx
  | con t y =>
    have := Rep.len hx
    cases t <;> simp [one, aggTy] at h <;> exact this
  | raw v =>
    have hx : cs = v.cells.toList := hx
    rw [isNilV_ok h] at hx; rw [hx]; rfl
  | emp => obtain ⟨A, e⟩ := hx; rw [e]; rfl
  | ref r q => obtain ⟨v, e, _⟩ := hx; rw [e]; rfl
  | sub r q lo n => obtain ⟨v, e, _⟩ := hx; rw [e]; rfl
  | ptr r q => obtain ⟨v, e, _⟩ := hx; rw [e]; rfl
  | pro t y => obtain ⟨_, _, _, _, _, e, _⟩ := hx; rw [e]; rfl
  | fn f c => obtain ⟨v, e, _⟩ := hx; rw [e]; rfl
  | _ => simp [one] at h
theorem less_leaf_eq {k : Nat} {a x : SV} (ha : leaf a = true) (h : less k a x) : a = x := by
  match k with
  | 0 => cases a <;> simp [leaf] at ha <;> cases x <;> simp [less] at h <;> (try exact h) <;> simp_all
  | 1 => cases a <;> simp [leaf] at ha <;> cases x <;> simp [less] at h <;> (try exact h) <;> simp_all
  | k + 2 => cases a <;> simp [leaf] at ha <;> cases x <;> simp [less] at h <;> (try exact h) <;> simp_all
theorem less_ok : ∀ (a : SV), (∀ {x : SV} {cs : List Value}, less 1 a x → SVX w Im R x false cs → SVX w Im R a false cs) ∧ (∀ {x : SV} {us : List Value}, less 2 a x → SVX w Im R x true us → SVX w Im R a true us) ∧
    (∀ {x : SV} {v : Value}, less 0 a x → (x = .undef ∨ ∃ cs, (if isAgg x = true then v = .agg cs.toArray else cs = [v]) ∧ SVX w Im R x false cs) → (a = .undef ∨ ∃ cs, (if isAgg a = true then v = .agg cs.toArray else cs = [v]) ∧ SVX w Im R a false cs)) := by
  have lf : ∀ (a : SV), leaf a = true → (∀ {x : SV} {cs : List Value}, less 1 a x → SVX w Im R x false cs → SVX w Im R a false cs) ∧ (∀ {x : SV} {us : List Value}, less 2 a x → SVX w Im R x true us → SVX w Im R a true us) ∧
      (∀ {x : SV} {v : Value}, less 0 a x → (x = .undef ∨ ∃ cs, (if isAgg x = true then v = .agg cs.toArray else cs = [v]) ∧ SVX w Im R x false cs) → (a = .undef ∨ ∃ cs, (if isAgg a = true then v = .agg cs.toArray else cs = [v]) ∧ SVX w Im R a false cs)) := by
    intro a ha
    refine ⟨fun hl hx => ?_, fun hl hx => ?_, fun hl hx => ?_⟩
    · rw [less_leaf_eq ha hl]; exact hx
    · rw [less_leaf_eq ha hl]; exact hx
    · rw [less_leaf_eq ha hl]; exact hx
  intro a
  induction a with
  | undef =>
    refine ⟨fun hl hx => ?_, fun hl hx => ?_, fun _ _ => .inl rfl⟩
    · exact one_len (by simpa [less] using hl) hx
    · cases ‹SV› <;> simp [less] at hl
  | agg a b iha ihb =>
    refine ⟨fun {x cs} hl hx => ?_, fun {x us} hl hx => ?_, fun {x v} hl hx => ?_⟩
    · cases x <;> simp [less] at hl
      obtain ⟨c1, c2, e, h1, h2⟩ := hx
      exact ⟨c1, c2, e, iha.1 hl.1 h1, ihb.1 hl.2 h2⟩
    · cases x <;> simp [less] at hl
      obtain ⟨c1, c2, e, h1, h2⟩ := hx
      exact ⟨c1, c2, e, iha.1 hl.1 h1, ihb.1 hl.2 h2⟩
    · cases x <;> simp [less] at hl
      rcases hx with hx | ⟨cs, e, c1, c2, e2, h1, h2⟩
      · cases hx
      · exact .inr ⟨cs, e, c1, c2, e2, iha.1 hl.1 h1, ihb.1 hl.2 h2⟩
  | tcons a b iha ihb =>
    refine ⟨fun {x cs} hl hx => ?_, fun {x us} hl hx => ?_, fun {x v} hl hx => ?_⟩
    · cases x <;> simp [less] at hl
      obtain ⟨e, _⟩ := hx; cases e
    · cases x <;> simp [less] at hl
      obtain ⟨e, v, vs', e2, h1, h2⟩ := hx
      exact ⟨e, v, vs', e2, iha.2.2 hl.1 h1, ihb.2.1 hl.2 h2⟩
    · cases x <;> simp [less] at hl
      rcases hx with hx | ⟨cs, e, e0, _⟩
      · cases hx
      · cases e0
  | fn f c ih =>
    refine ⟨fun {x cs} hl hx => ?_, fun {x us} hl hx => ?_, fun {x v} hl hx => ?_⟩
    · cases x <;> simp [less] at hl
      obtain ⟨caps, e, h⟩ := hx
      exact ⟨caps, by rw [hl.1]; exact e, ih.2.1 hl.2 h⟩
    · cases x <;> simp [less] at hl
      obtain ⟨caps, e, h⟩ := hx
      exact ⟨caps, by rw [hl.1]; exact e, ih.2.1 hl.2 h⟩
    · cases x <;> simp [less] at hl
      rcases hx with hx | ⟨cs, e, caps, e2, h⟩
      · cases hx
      · exact .inr ⟨cs, e, caps, by rw [hl.1]; exact e2, ih.2.1 hl.2 h⟩
  | con t x => exact lf _ rfl
  | raw v => exact lf _ rfl
  | emp => exact lf _ rfl
  | tnil => exact lf _ rfl
  | ref r q => exact lf _ rfl
  | sub r q lo n => exact lf _ rfl
  | ptr r q => exact lf _ rfl
  | pro t x => exact lf _ rfl
  | nul t x => exact lf _ rfl
theorem SVV.less {a x : SV} {v : Value} (hl : less 0 a x) (h : SVV w Im R x v) : SVV w Im R a v := by
  rcases h with h | ⟨us, e, h, h2⟩ | h
  · rcases (less_ok (w := w) (Im := Im) (R := R) a).2.2 (v := v) hl (.inl h) with h | h
    · exact .inl h
    · exact .inr (.inr h)
  · rcases h2 with h2 | ⟨p, q, h2⟩
    · subst h2
      cases a <;> simp [V.less] at hl
      · exact .inl rfl
      · exact .inr (.inl ⟨us, e, h, .inl rfl⟩)
    · subst h2
      cases a <;> simp [V.less] at hl
      · exact .inl rfl
      · obtain ⟨e0, u, us', e2, h3, h4⟩ := h
        exact .inr (.inl ⟨us, e, ⟨e0, u, us', e2, (less_ok _).2.2 hl.1 h3, (less_ok _).2.1 hl.2 h4⟩, .inr ⟨_, _, rfl⟩⟩)
  · rcases (less_ok (w := w) (Im := Im) (R := R) a).2.2 (v := v) hl (.inr h) with h | h
    · exact .inl h
    · exact .inr (.inr h)
theorem Inv.weaken (h : Inv G st vs w Im R hand) (hl : st2.slots.length = st.slots.length) (hs : ∀ n, V.less 0 (sget st2.slots n) (sget st.slots n)) (hb : ∀ j b, bget st2.boxes j = some b → bget st.boxes j = some b) : ∃ R2, Inv G st2 vs w Im R2 hand := by
  have hR : ∀ j, (match bget st2.boxes j with | some _ => R j | none => none) = R j ∨ (match bget st2.boxes j with | some _ => R j | none => none) = none := fun j => by
    cases bget st2.boxes j
    · exact .inr rfl
    · exact .inl rfl
  refine ⟨fun j => match bget st2.boxes j with | some _ => R j | none => none, ?_⟩
  have hsv := h.sv (Grow.refl w Im) (R' := fun j => match bget st2.boxes j with | some _ => R j | none => none) (p := fun _ _ _ => false) (fun r => by
    rcases hR r with e | e
    · exact .inl ⟨e, fun _ _ _ _ _ => rfl⟩
    · refine .inr ⟨fun q v _ _ b rb hb => ?_, fun q lo n v _ hh => ?_, fun q v _ _ b rb hb => ?_⟩
      · rw [show (fun j => match bget st2.boxes j with | some _ => R j | none => none) r = none from e] at hb; cases hb
      · obtain ⟨u, _, _⟩ := hh
        refine ⟨u, fun b rb hb => ?_, fun b rb hb => ?_⟩
        · rw [show (fun j => match bget st2.boxes j with | some _ => R j | none => none) r = none from e] at hb; cases hb
        · rw [show (fun j => match bget st2.boxes j with | some _ => R j | none => none) r = none from e] at hb; cases hb
      · rw [show (fun j => match bget st2.boxes j with | some _ => R j | none => none) r = none from e] at hb; cases hb)
  have hown : ∀ j, own (fun j => match bget st2.boxes j with | some _ => R j | none => none) hand j = own R hand j ∨ own (fun j => match bget st2.boxes j with | some _ => R j | none => none) hand j = [] := by
    intro j
    cases j with
    | zero => exact .inl rfl
    | succ j =>
      rcases hR j with e | e
      · left; simp only [own]; rw [e]
      · right; simp only [own]; rw [e]
  refine ⟨fun j => ?_, fun j b' r' hb' => ?_, h.sep.redis (fun j => ?_) (fun j l hjl k h1 h2 => ?_) (fun j p hp => ?_), fun n => ?_, hl.trans h.len, h.keep, fun j b' r' hb' => ?_⟩
  · cases hj : bget st2.boxes j with
    | none => rfl
    | some b =>
      have := h.box j
      rw [hb j b hj] at this
      exact this
  · rcases hR j with e | e
    · exact h.rep j b' r' (e ▸ hb')
    · rw [e] at hb'; cases hb'
  · rcases hown j with e | e <;> rw [e]
    · exact h.sep.nod j
    · exact List.nodup_nil
  · rcases hown j with e | e <;> rw [e] at h1
    · rcases hown l with e2 | e2 <;> rw [e2] at h2
      · exact h.sep.sep j l hjl k h1 h2
      · simp [keys] at h2
    · simp [keys] at h1
  · rcases hown j with e | e <;> rw [e] at hp
    · exact ⟨j, hp⟩
    · simp at hp
  · have := hsv.2 (h.slots n)
    rw [forget_none] at this
    exact SVV.less (hs n) this
  · rcases hR j with e | e
    · exact h.row j b' r' (e ▸ hb')
    · rw [e] at hb'; cases hb'
theorem Ok.take {T : Type} {r : T} {s : SkS} {K : s.T → Option T} (h : Ok G I0 st a w) (hk : s.take st K = some r) : ∃ x, K x = some r ∧ Ok G I0 (s.fill x) a w := by
  obtain ⟨x, hk, l1, l2⟩ := slotsTake_some hk
  obtain ⟨y, hk, l3⟩ := boxesTake_some hk
  obtain ⟨hd, Im, R, hI, h⟩ := h
  obtain ⟨R2, h2⟩ := h.weaken (st2 := s.fill (x, y)) l1 l2 l3
  exact ⟨(x, y), hk, hd, Im, R2, hI, h2⟩
end
end Go.Proofs.YtgdaiifhedpffaaDoor.V
set_option linter.unusedVariables false
set_option linter.unusedSimpArgs false
namespace Go.Proofs.YtgdaiifhedpffaaDoor.V
open Go
section
variable {P : Program} {G : Gl} {I0 : Nat → Prop} {st st1 : St} {a : Act} {vs : Array Value} {w w' : World} {Im Im' : Nat → Prop} {R R' : Real} {hand hand' : Frag} {o : Oper} {T : Type} {r0 : T} {E : Env}
theorem Inv.reslot (h : Inv G st vs w Im R hand) (g : Tmp) {s : SV} (hs : SVV w Im R s (vs.getD g Go.undef)) : Inv G (st.set (some g) s) vs w Im R hand := by
  refine ⟨h.box, h.rep, h.sep, fun n => ?_, ?_, h.keep, h.row⟩
  · show SVV w Im R (sget (sset st.slots g s) n) _
    rw [sget_sset]
    split
    · rename_i e; rw [e.1]; exact hs
    · exact h.slots n
  · show (sset st.slots g s).length = _
    rw [sset_length]; exact h.len
theorem Inv.adopt : ∀ {l : List (Nat × Nat × Ty × Md)} {st : St} {Im : Nat → Prop} {R : Real}, Inv G st vs w Im R [] → ∃ (Im' : Nat → Prop) (R' : Real), (∀ k, Im k → Im' k) ∧ Inv G (st.adopt l) vs w Im' R' []
  | [], _, Im, R, h => ⟨Im, R, fun _ h => h, h⟩
  | (i, r, t, m) :: l, st, Im, R, h => by
    have go : ∀ {A : Option Addr}, vs.getD i Go.undef = .slice A 0 0 → ∃ (Im' : Nat → Prop) (R' : Real), (∀ k, Im k → Im' k) ∧ Inv G ({ (st.lay r { mem := none, t := .slc t, m := .own m, x := [] }) with slots := sset (st.slots.map (killAll r)) i (.ref r []) }.adopt l) vs w Im' R' [] := by
      intro A hv
      have h1 := Inv.lay (hand := []) (hand' := []) h r (b := { mem := none, t := .slc t, m := .own m, x := [] }) (rb := ⟨0, [.slice A 0 0], []⟩) (.inl ⟨rfl, ⟨A, rfl⟩, rfl⟩) rfl
      have h2 := h1.reslot i (s := .ref r []) (by rw [hv]; exact ref_ok rfl rfl R)
      exact Inv.adopt (l := l) h2
    have hs := h.slots i
    unfold St.adopt
    split
    · rename_i e; rw [e] at hs; exact go hs.raw
    · rename_i e; rw [e] at hs
      obtain ⟨A, hv⟩ := hs.cell (by simp) (by simp) (by simp) rfl
      exact go (by simpa using hv)
    · rename_i s q e
      split
      · split
        · rename_i h0
          split
          · rename_i b hb
            split
            · rename_i ht
              split
              · rename_i m' hm
                split
                · rename_i hlv
                  rw [e] at hs
                  obtain ⟨u, e1, hr⟩ := hs.cell (by simp) (by simp) (by simp) rfl
                  simp only [List.cons.injEq, and_true] at e1
                  obtain ⟨R1, h1, hi, hrep, _, _⟩ := Inv.take (hand := []) h hb hr h0 (by rw [ht]; rfl) hm
                  have hrep2 := hrep.cast ht
                  rw [hm] at hrep2
                  have hh : ∀ p ∈ h1, w.heap[p.1]? = some p.2 := fun p hp => hi.sep.heap 0 p (by rw [own_zero]; simpa using hp)
                  obtain ⟨hi2, g⟩ := Inv.freeze (hand := []) hi
                  have hf := Rep.freeze (w' := w) (t := .slc t) (m := .own m') hlv g.im g.heap (fun p hp => ⟨.inr (keys_mem.2 ⟨p, hp, rfl⟩), hh p hp⟩) hrep2
                  have h3 := hi2.reslot i (s := .con (.slc t) (ht ▸ cget b.t b.x q : den (.slc t))) (by rw [e1]; exact .ofCell hf rfl)
                  obtain ⟨Im', R', g2, h4⟩ := Inv.adopt (l := l) h3
                  exact ⟨Im', R', fun k hk => g2 k (g.im k hk), h4⟩
                · exact Inv.adopt (l := l) h
              · exact Inv.adopt (l := l) h
            · exact Inv.adopt (l := l) h
          · exact Inv.adopt (l := l) h
        · exact Inv.adopt (l := l) h
      · split
        · exact Inv.adopt (l := l) h
        rename_i hc
        simp only [Bool.or_eq_true, Bool.not_eq_true', decide_eq_false_iff_not, not_or, Decidable.not_not] at hc
        split
        · rename_i b hb
          split
          · rename_i ht
            split
            · rename_i m' hm
              rw [e] at hs
              obtain ⟨u, e1, hr⟩ := hs.cell (by simp) (by simp) (by simp) rfl
              simp only [List.cons.injEq, and_true] at e1
              obtain ⟨R1, h1, hi, hrep, _, _⟩ := Inv.take (hand := []) h hb hr hc.2 (by rw [ht]; rfl) hm
              have hrep2 := hrep.cast ht
              rw [hm] at hrep2
              have h2 := Inv.lay (hand := []) hi r (b := { mem := none, t := .slc t, m := .own m', x := (ht ▸ cget b.t b.x q : den (.slc t)) }) (rb := ⟨0, [u], h1⟩) hrep2 rfl
              have h3 := h2.reslot i (s := .ref r []) (by rw [e1]; exact ref_ok rfl rfl R1)
              exact Inv.adopt (l := l) h3
            · exact Inv.adopt (l := l) h
          · exact Inv.adopt (l := l) h
        · exact Inv.adopt (l := l) h
    · exact Inv.adopt (l := l) h
theorem Ok.adopt (h : Ok G I0 st a w) (l : List (Nat × Nat × Ty × Md)) : Ok G I0 (st.adopt l) a w := by
  obtain ⟨hd, Im, R, hI, h⟩ := h
  obtain ⟨Im1, R1, g, h1⟩ := h.adopt (l := l)
  exact ⟨hd, Im1, R1, fun b hb => g b (hI b hb), h1⟩
def CallOk (P : Program) (c : Cx) (G : Gl) (I0 : Nat → Prop) : Prop :=
  ∀ {T : Type} {K : St → Option T} {r0 : T} {st : St} {a : Act} {w : World} {o : Oper} {Im : Nat → Prop} {R : Real} {Q : Exit → Act → World → Prop} (cl : Call) (f : Operand) (g : FuncId) (caps : SV), a.defers = [] → (∀ b, I0 b → Im b) → Inv G st a.tmps w Im R [] →
    o.op = .call cl → cl.callee = .value f → st.ev f = .fn g caps → ends caps = true → callS c st o.dst g (cl.args.toList.map st.ev ++ untup caps) K = some r0 → o.wp P a w (Post G I0 K r0) Q
theorem step_ok {c : Cx} (hE : EnvOk P c.E) (hC : CallOk P c G I0) (h : Ok G I0 st a w) {K : St → Option T} {Q : Exit → Act → World → Prop} (hk : stepS c st o K = some r0) : o.wp P a w (Post G I0 K r0) Q := by
  obtain ⟨hd, Im, R, hI, h⟩ := h
  exact step_some hE hd hI h (fun cl f g caps h1 h2 h3 h4 h5 => hC cl f g caps hd hI h h1 h2 h3 h4 h5) hk
theorem Ok.skip (h : Ok G I0 st a w) (d : Option Tmp) : Ok G I0 (st.set d .tnil) (a.put d Go.undef) w := by
  obtain ⟨hd, Im, R, hI, h⟩ := h
  exact ⟨by rw [put_defers]; exact hd, Im, R, hI, h.put d .ofUndef⟩
theorem g_some {c : Cx} (hE : EnvOk P c.E) (hC : CallOk P c G I0) {ops : Array Oper} {Q : Exit → Act → World → Prop} {K : St → Option T} {KK : Act → World → Prop} {i : Nat} (hk : gS c ops i st K = some r0) (h : Ok G I0 st a w) (hKK : ∀ a w, Post G I0 K r0 a w → KK a w) : wpOp P ops Q i KK a w := by
  simp only [gS, opsS] at hk
  unfold wpOp
  split at hk
  · cases hk
  · rename_i o ho
    simp only [ho]
    have run : ∀ {st : St}, Ok G I0 st a w → stepS c st o K = some r0 → Region.wanted o (yielded ops a.tmps) = true →
        (if Region.wanted o (yielded ops a.tmps) = true then o.wp P a w KK Q ∨ (o.asks P a w ∧ LetsOut Q) else KK (a.put o.dst Go.undef) w) := by
      intro st h hk hw
      rw [if_pos hw]
      exact .inl (Oper.wp_mono hKK (step_ok hE hC h hk))
    have skip : ∀ {st : St}, Ok G I0 st a w → K (st.set o.dst .tnil) = some r0 → Region.wanted o (yielded ops a.tmps) = false →
        (if Region.wanted o (yielded ops a.tmps) = true then o.wp P a w KK Q ∨ (o.asks P a w ∧ LetsOut Q) else KK (a.put o.dst Go.undef) w) := by
      intro st h hk hw
      rw [if_neg (by simp [hw])]
      exact hKK _ _ ⟨_, hk, h.skip o.dst⟩
    split at hk
    · rename_i hg
      exact run h hk (by simp [Region.wanted, hg])
    · rename_i j want hg
      split at hk
      · cases hk
      · rename_i g hj
        obtain ⟨hd, Im, R, hI, hi⟩ := h
        have hs := hi.slots g
        have hlt : sget st.slots g ≠ .undef → g < a.tmps.size := fun hne => by
          rw [← hi.len]
          rcases Nat.lt_or_ge g st.slots.length with h | h
          · exact h
          · exact absurd (sget_out _ _ h) hne
        split at hk
        · rename_i v hv
          have hl := hlt (by rw [hv]; simp)
          rw [hv] at hs
          have hb := hs.bool
          have hy : yielded ops a.tmps j = some v := by
            unfold yielded
            rw [hj]
            have : a.tmps[g]? = some (.bool v) := by
              rw [Array.getElem?_eq_getElem hl]
              rw [Array.getD_eq_getD_getElem?, Array.getElem?_eq_getElem hl] at hb
              simpa using hb
            simp [this]
          have hw : Region.wanted o (yielded ops a.tmps) = (v == want) := by
            simp [Region.wanted, hg, hy]
          have hok : Ok G I0 (st.set (some g) (.con .bool v)) a w := ⟨hd, Im, R, hI, hi.reslot g (by rw [hb]; exact .ofBool v)⟩
          cases v <;> cases want <;> simp only [cond_true, cond_false] at hk
          · exact run hok hk (by rw [hw]; rfl)
          · exact skip hok hk (by rw [hw]; rfl)
          · exact skip hok hk (by rw [hw]; rfl)
          · exact run hok hk (by rw [hw]; rfl)
        · rename_i hv
          have hl := hlt (by rw [hv]; simp)
          rw [hv] at hs
          have hb := hs.tnil_iff
          have hy : yielded ops a.tmps j = none := by
            unfold yielded
            rw [hj]
            have : a.tmps[g]? = some Go.undef := by
              rw [Array.getElem?_eq_getElem hl]
              rw [Array.getD_eq_getD_getElem?, Array.getElem?_eq_getElem hl] at hb
              simpa using hb
            simp [this, Go.undef]
          exact skip ⟨hd, Im, R, hI, hi⟩ hk (by simp [Region.wanted, hg, hy])
        · cases hk
theorem ops_some {c : Cx} (hE : EnvOk P c.E) (hC : CallOk P c G I0) {ops : Array Oper} {Q : Exit → Act → World → Prop} {K : St → Option T} (hQ : ∀ a w, Post G I0 K r0 a w → Q .normal a w) :
    ∀ (l : List Nat) {st : St} {a : Act} {w : World}, opsS c ops l st K = some r0 → Ok G I0 st a w → wpOps P ops Q l a w
  | [], st, a, w, hk, h => hQ a w ⟨st, hk, h⟩
  | i :: rest, st, a, w, hk, h => by
    rw [opsS_cons] at hk
    rw [wpOps_cons]
    exact g_some hE hC hk h fun a w ⟨st', hk', h'⟩ => ops_some hE hC hQ rest hk' h'
theorem ops_then {c : Cx} (hE : EnvOk P c.E) (hC : CallOk P c G I0) {ops : Array Oper} {Q : Exit → Act → World → Prop} {F : St → Option T} {rest : List Nat} (hF : ∀ (st : St) (a : Act) (w : World), F st = some r0 → Ok G I0 st a w → wpOps P ops Q rest a w) :
    ∀ (l : List Nat) {st : St} {a : Act} {w : World}, opsS c ops l st F = some r0 → Ok G I0 st a w → wpOps P ops Q (l ++ rest) a w
  | [], st, a, w, hk, h => hF st a w hk h
  | i :: l, st, a, w, hk, h => by
    rw [opsS_cons] at hk
    rw [List.cons_append, wpOps_cons]
    exact g_some hE hC hk h fun a w ⟨st', hk', h'⟩ => ops_then hE hC hF l hk' h'
theorem range2 (n : Nat) : List.range (n + 2) = 0 :: ((List.range n).map (1 + ·) ++ [n + 1]) := by
  rw [List.range_succ, show n + 1 = 1 + n by omega, List.range_add]
  simp
theorem nestR_some {c : Cx} (hE : EnvOk P c.E) (hC : CallOk P c G I0) {ops : Array Oper} {k : Nat} {Q : Exit → Act → World → Prop} {K : St → Option T} (hat : nestAt ops = some k) (hQ : ∀ a w, Post G I0 K r0 a w → Q .normal a w) {st : St} {a : Act} {w : World}
    (hk : nestR c ops k st K = some r0) (h : Ok G I0 st a w) : wpOps P ops Q (List.range ops.size) a w := by
  have hok : nestOk ops k = true := by unfold nestAt at hat; exact List.find?_some hat
  have hlt : k + 1 < ops.size := by
    unfold nestOk at hok
    split at hok
    · simp only [Bool.and_eq_true, decide_eq_true_eq] at hok
      exact hok.1.1.1.1
    · cases hok
  have e1 : List.range ops.size = List.range k ++ (List.range (ops.size - k)).map (k + ·) := by
    rw [show ops.size = k + (ops.size - k) by omega, List.range_add]
    simp
  have e2 : (List.range (ops.size - k)).map (k + ·) = k :: ((List.range (ops.size - 2 - k)).map (k + 1 + ·) ++ [ops.size - 1]) := by
    obtain ⟨n, hn⟩ : ∃ n, ops.size = n + 2 + k := ⟨ops.size - 2 - k, by omega⟩
    rw [hn, show n + 2 + k - k = n + 2 by omega, show n + 2 + k - 2 - k = n by omega, range2, List.map_cons, List.map_append, List.map_map]
    congr 1
    congr 1
    · apply List.map_congr_left; intro x _; simp; omega
    · simp; omega
  rw [e1]
  unfold nestR at hk
  refine ops_then hE hC (fun st a w hk h => ?_) _ hk h
  split at hk
  · obtain ⟨hd, Im, R, hI, h⟩ := h
    rw [e2]
    exact nest_some hE hd hI hok h hk hQ
  · exact ops_some hE hC hQ _ hk h
theorem Ok.drew (h : Ok G I0 st a w) : Ok G I0 st a w.drew := by
  obtain ⟨hd, Im, R, hI, h⟩ := h
  exact ⟨hd, Im, R, hI, h.drew⟩
def Ends (G : Gl) (I0 : Nat → Prop) (K : Ex → St → Option T) (r0 : T) : Exit → Act → World → Prop
  | .normal, a, w => Post G I0 (K .normal) r0 a w
  | .exit id, a, w => Post G I0 (K (.exit id)) r0 a w
  | .ret, a, w => Post G I0 (K .ret) r0 a w
  | _, _, _ => False
theorem loopO_some {A B : Type} {f : A → Option (A ⊕ B)} {a : A} {b : B} (h : loopO f a = some b) : ∃ n, rounds f n a = some b := by
  unfold loopO at h
  split at h
  · rename_i hh
    cases h
    exact ⟨_, Classical.choose_spec (Classical.choose_spec hh)⟩
  · cases h
end
theorem outTake_some {G : Gl} {I0 : Nat → Prop} {a : Act} {w : World} {T : Type} {r : T} {K2 : Ex → St → Option T} : ∀ {l : List Way} {e : Ex} {st : St} {B : Type} {F : OutV l → B} {y : B} , outTake l e st (fun v => some (F v)) = some y → Ok G I0 st a w →
    ∃ v, F v = y ∧ (dispatch l K2 v = some r → ∃ st', K2 e st' = some r ∧ Ok G I0 st' a w)
  | [], e, st, B, F, y, h, hok => by simp [outTake] at h
  | p :: l, e, st, B, F, y, h, hok => by
    simp only [outTake] at h
    split at h
    · rename_i he
      obtain ⟨x, hx, hok'⟩ := (hok.adopt p.nils).take h
      cases hx
      exact ⟨.inl x, rfl, fun hd => ⟨_, by rw [← he]; exact hd, hok'⟩⟩
    · obtain ⟨v, hv, hd⟩ := outTake_some (l := l) (F := fun v => F (.inr v)) h hok
      exact ⟨.inr v, hv, hd⟩
theorem noDup_nodup : ∀ {l : List Nat}, noDup l = true → l.Nodup
  | [], _ => List.nodup_nil
  | a :: l, h => by
    simp only [noDup, Bool.and_eq_true, Bool.not_eq_true'] at h
    exact List.nodup_cons.2 ⟨fun hm => by have := h.1; simp [hm] at this, noDup_nodup h.2⟩
theorem wp_loop_peel {P : Program} {Q : Exit → Act → World → Prop} {a : Act} {w : World} {c : Code} (h : c.wp P (Exit.then (fun a w => ∃ n, Code.rounds P c Q n a w) Q) a w) : (Code.loop c).wp P Q a w := by
  intro b k cs
  have key : ∀ n a w, Code.rounds P c Q n a w →
      ∃ e a' w', Q e a' w' ∧ Arrives P (lone (b.at a (.code c :: .inLoop c :: k)) cs w) b k cs e a' w' := by
    intro n
    induction n with
    | zero => intro a w h; exact h.elim
    | succ n ih =>
      intro a w h
      obtain ⟨e, a₁, w₁, hq, harr⟩ := h b (.inLoop c :: k) cs
      cases e with
      | normal =>
        obtain ⟨e₂, a₂, w₂, hq₂, harr₂⟩ := ih a₁ w₁ hq
        exact ⟨e₂, a₂, w₂, hq₂, .of_steps (Steps.trans harr (.one step_inLoop)) harr₂⟩
      | _ => exact ⟨_, a₁, w₁, hq, .pass (x := .inLoop c) rfl (fun _ _ => .inl (by simp)) harr⟩
  obtain ⟨e, a₁, w₁, hq, harr⟩ := h b (.inLoop c :: k) cs
  cases e with
  | normal =>
    obtain ⟨n, hn⟩ := hq
    obtain ⟨e₂, a₂, w₂, hq₂, harr₂⟩ := key n a₁ w₁ hn
    exact ⟨e₂, a₂, w₂, hq₂, .of_steps (.one step_loop) (.of_steps (Steps.trans harr (.one step_inLoop)) harr₂)⟩
  | _ => exact ⟨_, a₁, w₁, hq, .of_steps (.one step_loop) (.pass (x := .inLoop c) rfl (fun _ _ => .inl (by simp)) harr)⟩
theorem code_some {P : Program} {G : Gl} {I0 : Nat → Prop} {c : Fx} (hm : P.follows .mixedOrders = true) (hE : EnvOk P c.E) (hC : CallOk P c.toCx G I0) : ∀ (code : Code), (∀ b ∈ loops code, ∀ nd, nget c.nodes true (head b) = some nd → LoopOk c b nd) → (∀ b ∈ tails code, ∀ nd, nget c.nodes false (head b) = some nd → TailOk c b nd) →
    ∀ {T : Type} {K : Ex → St → Option T} {r0 : T} {st : St} {a : Act} {w : World}, codeS c code st K = some r0 → Ok G I0 st a w → code.wp P (Ends G I0 K r0) a w := by
  intro code
  induction code with
  | skip => intro hL hT T K r0 st a w hk h; exact wp_skip ⟨st, hk, h⟩
  | region id ops draw =>
    intro hL hT T K r0 st a w hk h
    simp only [codeS] at hk
    split at hk
    · rename_i k hn
      cases draw with
      | true => cases hn
      | false => exact wp_region (nestR_some hE hC (Q := Ends G I0 K r0) (K := K .normal) hn (fun a w hp => hp) hk h)
    split at hk
    · rename_i hd
      cases draw with
      | false => exact wp_region (ops_some hE hC (Q := Ends G I0 K r0) (K := K .normal) (fun a w hp => hp) _ hk h)
      | true =>
        have hd : drawOk ops (preds ops.toList []) = true := by simpa using hd
        refine wp_region_any hm ?_
        refine any_some (K := K .normal) (r0 := r0) (fun hk h hKK => g_some hE hC hk h hKK) hd (fun a w hp => hp) ops.size (List.range ops.size) _ (by simp) (by simp) List.pairwise_lt_range (fun i => ?_) ?_ hk h.drew
        · simp only [List.mem_range]
          constructor
          · intro hi; exact ⟨hi, by simp [Array.getD_eq_getD_getElem?, hi]⟩
          · exact fun h => h.1
        · rintro i o ⟨hi, hl⟩
          simp [Array.getD_eq_getD_getElem?, hi] at hl
    · rename_i hd0
      have hdr : draw = true := by
        cases draw with
        | false => simp at hd0
        | true => rfl
      subst hdr
      split at hk
      · rename_i F hF
        split at hk
        case isFalse => cases hk
        rename_i hd
        simp only [Bool.and_eq_true] at hd
        obtain ⟨hh, hd⟩ := hd
        obtain ⟨h1, h2, h3⟩ := hoistOk_spec hh
        have hsum : F.length + ((List.range ops.size).filter (!F.contains ·)).length = ops.size := by
          have hnd : F.Nodup := noDup_nodup h2
          have hp : List.Perm (List.range ops.size) (F ++ (List.range ops.size).filter (!F.contains ·)) := by
            refine (List.perm_ext_iff_of_nodup List.nodup_range ?_).2 (fun i => ?_)
            · refine List.nodup_append.2 ⟨hnd, List.nodup_range.filter _, fun x hx y hy e => ?_⟩
              subst e
              simp only [List.mem_filter, Bool.not_eq_true'] at hy
              simp [hx] at hy
            · simp only [List.mem_append, List.mem_filter, List.mem_range, Bool.not_eq_true']
              constructor
              · intro hi
                cases hc : F.contains i with
                | true => exact .inl (List.contains_iff_mem.1 hc)
                | false => exact .inr ⟨hi, rfl⟩
              · rintro (hi | hi)
                · obtain ⟨o, x, ho, _⟩ := h3 i hi
                  exact (Array.getElem?_eq_some_iff.1 ho).1
                · exact hi.1
          have := hp.length_eq
          simp only [List.length_range, List.length_append] at this
          omega
        refine wp_region_any hm ?_
        have efu : ops.size - F.length + F.length = ops.size := by omega
        suffices hw : wpAny P .any ops (Ends G I0 K r0) (ops.size - F.length + F.length) (Array.replicate ops.size false) a w.drew by rw [efu] at hw; exact hw
        refine hoist_some (K := fun st => opsC c.toCx ops (wards ops (preds ops.toList []) c.O F (softH c id)) ((List.range ops.size).filter (!F.contains ·)) st (fun st => K .normal st)) h1 (fun ch a w hq => hq) F h2 h3 (fun i hi => ?_) (by simp) hk h.drew (fun st' a' listed' g1 g2 g3 g4 => ?_)
        · obtain ⟨o, x, ho, _⟩ := h3 i hi
          have := (Array.getElem?_eq_some_iff.1 ho).1
          simp [Array.getD_eq_getD_getElem?, this]
        · have hmem : ∀ i, i ∈ (List.range ops.size).filter (!F.contains ·) ↔ i < ops.size ∧ listed'.getD i true = false := fun i => by
            simp only [List.mem_filter, List.mem_range, Bool.not_eq_true']
            constructor
            · rintro ⟨a1, a2⟩
              refine ⟨a1, ?_⟩
              cases hg : listed'.getD i true with
              | false => rfl
              | true =>
                rcases (g2 i a1).1 hg with h | h
                · simp [h] at a2
                · simp [Array.getD_eq_getD_getElem?, a1] at h
            · rintro ⟨a1, a2⟩
              refine ⟨a1, ?_⟩
              cases hc : F.contains i with
              | false => rfl
              | true =>
                have := (g2 i a1).2 (.inl (List.contains_iff_mem.1 hc))
                rw [a2] at this; cases this
          have hlen : ((List.range ops.size).filter (!F.contains ·)).length = ops.size - F.length := by omega
          refine anyC_some (K := K .normal) (r0 := r0) (fun hk h hKK => g_some hE hC hk h hKK) hd (fun a w hp => hp) (ops.size - F.length) _ _ hlen g1 (List.pairwise_lt_range.filter _) (fun i hi => ?_) hmem ?_ g3 g4
          · simpa using (List.mem_filter.1 hi).2
          · rintro i o ⟨hi, hl⟩ ho e he
            rcases (g2 i hi).1 hl with h | h
            · obtain ⟨o', x, ho', _, _, hed, _⟩ := h3 i h
              rw [ho] at ho'; cases ho'
              rw [hed] at he; cases he
            · simp [Array.getD_eq_getD_getElem?, hi] at h
      · split at hk
        case isFalse => cases hk
        rename_i hd
        refine wp_region_any hm ?_
        refine anyC_some (K := K .normal) (r0 := r0) (fun hk h hKK => g_some hE hC hk h hKK) hd (fun a w hp => hp) ops.size (List.range ops.size) _ (by simp) (by simp) List.pairwise_lt_range (fun i _ => rfl) (fun i => ?_) ?_ hk h.drew
        · simp only [List.mem_range]
          constructor
          · intro hi; exact ⟨hi, by simp [Array.getD_eq_getD_getElem?, hi]⟩
          · exact fun h => h.1
        · rintro i o ⟨hi, hl⟩
          simp [Array.getD_eq_getD_getElem?, hi] at hl
  | seq x y ihx ihy =>
    intro hL hT T K r0 st a w hk h
    simp only [codeS] at hk
    have ihx := @ihx (fun b hb => hL b (by simp [loops, hb])) (fun b hb => hT b (by simp [tails, hb]))
    have ihy := @ihy (fun b hb => hL b (by simp [loops, hb])) (fun b hb => hT b (by simp [tails, hb]))
    refine wp_seq (wp_mono (ihx hk h) fun e a w hq => ?_)
    cases e with
    | normal =>
      obtain ⟨st', hk', h'⟩ := hq
      dsimp only at hk'
      split at hk'
      · rename_i nd hnd
        have hok := hT y (by simp [tails]) nd hnd
        unfold Node.run at hk'
        obtain ⟨v, hk', h2⟩ := (h'.adopt nd.nils).take hk'
        obtain ⟨z, hz, hk'⟩ := Option.bind_eq_some_iff.1 hk'
        rw [hok.1] at hk'
        have ht := hok.2 v z hz
        generalize nd.out v z = z at hk' ht
        refine wp_mono (ihy ht h2) fun e a w hq => ?_
        have go : ∀ e2, Post G I0 (fun st => outTake nd.outs e2 st some) z a w → Post G I0 (K e2) r0 a w := by
          rintro e2 ⟨st2, q1, q2⟩
          obtain ⟨v2, q3, q4⟩ := outTake_some (K2 := K) (r := r0) (F := id) q1 q2
          have q3 : v2 = z := q3
          subst q3
          exact q4 hk'
        cases e with
        | normal => exact go _ hq
        | exit id => exact go _ hq
        | ret => exact go _ hq
        | _ => exact hq.elim
      · exact ihy hk' h'
    | exit id => exact hq
    | ret => exact hq
    | _ => exact hq.elim
  | cond x y z ihy ihz =>
    intro hL hT T K r0 st a w hk h
    simp only [codeS] at hk
    obtain ⟨v, e, hk⟩ := asBool_some hk
    have hv : a.eval x = .bool v := by
      obtain ⟨hd, Im, R, hI, h⟩ := h
      exact (e ▸ h.ev x : SVV w Im R (.con .bool v) (a.eval x)).bool
    cases v with
    | true => exact wp_cond_true hv (ihy (fun b hb => hL b (by simp [loops, hb])) (fun b hb => hT b (by simp [tails, hb])) hk h)
    | false => exact wp_cond_false hv (ihz (fun b hb => hL b (by simp [loops, hb])) (fun b hb => hT b (by simp [tails, hb])) hk h)
  | block id b ih =>
    intro hL hT T K r0 st a w hk h
    simp only [codeS] at hk
    refine wp_block (wp_mono (ih (fun b hb => hL b (by simpa [loops] using hb)) (fun b hb => hT b (by simpa [tails] using hb)) hk h) fun e a w hq => ?_)
    cases e with
    | normal => exact hq
    | exit j =>
      obtain ⟨st', hk', h'⟩ := hq
      show if j = id then _ else _
      simp only at hk'
      split at hk'
      · rename_i e; rw [if_pos e]; exact ⟨st', hk', h'⟩
      · rename_i e; rw [if_neg e]; exact ⟨st', hk', h'⟩
    | ret => exact hq
    | _ => exact hq.elim
  | loop b ih =>
    intro hL hT T K r0 st a w hk h
    have ih := @ih (fun b hb => hL b (by simp [loops, hb])) (fun b hb => hT b (by simpa [tails] using hb))
    simp only [codeS] at hk
    split at hk
    · rename_i nd hnd
      have hok := hL b (by simp [loops]) nd hnd
      have base : ∀ {st : St} {a : Act} {w : World}, nd.run st K = some r0 → Ok G I0 st a w → ∃ n, Code.rounds P b (Ends G I0 K r0) n a w := by
        clear hk h
        intro st a w hk h
        unfold Node.run at hk
        obtain ⟨v, hk, h2⟩ := (h.adopt nd.nils).take hk
        obtain ⟨z, hz, hk2⟩ := Option.bind_eq_some_iff.1 hk
        clear hk
        rw [hok.1] at hk2
        obtain ⟨n, hn⟩ := hok.2 v z hz
        generalize nd.out v z = z at hk2 hn
        refine ⟨n, ?_⟩
        clear hz h
        induction n generalizing v a w with
        | zero => cases hn
        | succ n ihn =>
          simp only [rounds] at hn
          split at hn
          · cases hn
          · rename_i v1 hf
            refine wp_mono (ih hf h2) fun e a w hq => ?_
            have go : ∀ e2, Post G I0 (fun st => outTake nd.outs e2 st fun y => some (Sum.inr y : nd.sk.T ⊕ OutV nd.outs)) (.inl v1) a w → False := by
              rintro e2 ⟨st2, q1, q2⟩
              obtain ⟨v2, q3, q4⟩ := outTake_some (K2 := K) (r := r0) (F := fun y => (Sum.inr y : nd.sk.T ⊕ OutV nd.outs)) q1 q2
              cases q3
            cases e with
            | normal =>
              obtain ⟨st', hk', h'⟩ := hq
              obtain ⟨v2, q1, q2⟩ := (h'.adopt nd.nils).take hk'
              simp at q1; subst q1
              exact ihn v2 q2 hn
            | exit j => exact (go _ hq).elim
            | ret => exact (go _ hq).elim
            | _ => exact hq.elim
          · rename_i pp hf
            cases hn
            refine wp_mono (ih hf h2) fun e a w hq => ?_
            have go : ∀ e2, Post G I0 (fun st => outTake nd.outs e2 st fun y => some (Sum.inr y : nd.sk.T ⊕ OutV nd.outs)) (.inr z) a w → Post G I0 (K e2) r0 a w := by
              rintro e2 ⟨st2, q1, q2⟩
              obtain ⟨v2, q3, q4⟩ := outTake_some (K2 := K) (r := r0) (F := fun y => (Sum.inr y : nd.sk.T ⊕ OutV nd.outs)) q1 q2
              cases q3
              exact q4 hk2
            cases e with
            | normal =>
              obtain ⟨st', hk', h'⟩ := hq
              obtain ⟨v2, q1, q2⟩ := (h'.adopt nd.nils).take hk'
              simp at q1
            | exit j => exact go _ hq
            | ret => exact go _ hq
            | _ => exact hq.elim
      cases hp : peels c b with
      | false =>
        rw [hp] at hk
        obtain ⟨n, hn⟩ := base hk h
        exact wp_loop_rounds n hn
      | true =>
        rw [hp] at hk
        refine wp_loop_peel (wp_mono (ih hk h) fun e a w hq => ?_)
        cases e with
        | normal =>
          obtain ⟨st', hk', h'⟩ := hq
          exact base hk' h'
        | exit j => exact hq
        | ret => exact hq
        | _ => exact hq.elim
    · cases hk
  | exit id => intro hL hT T K r0 st a w hk h; exact wp_exit ⟨st, hk, h⟩
  | ret => intro hL hT T K r0 st a w hk h; exact wp_ret ⟨st, hk, h⟩
  | _ => intro hL hT T K r0 st a w hk h; simp [codeS] at hk
end Go.Proofs.YtgdaiifhedpffaaDoor.V
set_option linter.unusedVariables false
set_option linter.unusedSimpArgs false
namespace Go.Proofs.YtgdaiifhedpffaaDoor.V
open Go
def LkOk (w : World) (Im : Nat → Prop) (t : Ty) (x : den t) (v : Value) : Prop := ∃ b o c e fz, v = .pointer (some ⟨b, o, none⟩) ∧ Im b ∧ w.heap[b]? = some (.cells c e fz) ∧ Rep w Im t .ro x ((c.toList.drop o).take (sz t)) []
def CapsOk (w : World) (Im : Nat → Prop) : (ts : List (Bool × Ty)) → denL ts → List Value → Prop
  | [], _, vs => vs = []
  | (true, t) :: ts, x, vs => ∃ v vs', vs = v :: vs' ∧ LkOk w Im t x.1 v ∧ CapsOk w Im ts x.2 vs'
  | (false, t) :: ts, x, vs => ∃ v vs' cs, vs = v :: vs' ∧ pack t cs v ∧ Rep w Im t .ro x.1 cs [] ∧ CapsOk w Im ts x.2 vs'
def ArgsOk (w : World) (Im : Nat → Prop) : (ps : List PK) → ArgT ps → List Value → Frag → Prop
  | [], _, vs, h => vs = [] ∧ h = []
  | .ro t :: ps, x, vs, h => ∃ v vs' cs, vs = v :: vs' ∧ pack t cs v ∧ Rep w Im t .ro x.1 cs [] ∧ ArgsOk w Im ps x.2 vs' h
  | .mv t m :: ps, x, vs, h => ∃ v vs' cs h1 h2, vs = v :: vs' ∧ h = h1 ++ h2 ∧ pack t cs v ∧ Rep w Im t m x.1 cs h1 ∧ ArgsOk w Im ps x.2 vs' h2
  | .io e t m :: ps, x, vs, h => ∃ vs' b cs h1 h2, vs = .pointer (some ⟨b, 0, none⟩) :: vs' ∧ h = (b, .cells cs.toArray e) :: (h1 ++ h2) ∧ Rep w Im t m x.1 cs h1 ∧ ArgsOk w Im ps x.2 vs' h2
  | .row t m :: ps, x, vs, h => ∃ v vs' cs h1 h2, vs = v :: vs' ∧ h = h1 ++ h2 ∧ pack t cs v ∧ Rep w Im t m x.1 cs h1 ∧ ArgsOk w Im ps x.2 vs' h2
  | .lk t :: ps, x, vs, h => ∃ v vs', vs = v :: vs' ∧ LkOk w Im t x.1 v ∧ ArgsOk w Im ps x.2 vs' h
  | .nil :: ps, x, vs, h => ∃ vs', vs = .slice none 0 0 :: vs' ∧ ArgsOk w Im ps x.2 vs' h
  | .fn f ts :: ps, x, vs, h => ∃ vs' caps, vs = .func (.func f) #[] caps :: vs' ∧ CapsOk w Im ts x.1 caps.toList ∧ ArgsOk w Im ps x.2 vs' h
def ioFrag (R : Real) : List Nat → Frag
  | [] => []
  | r :: l => own R [] (r + 1) ++ ioFrag R l
def LendOk (w : World) (R : Real) : Ty → Md → List Value → List (Nat × Path) → Prop
  | .pair a b, m, cs, ids => ∃ c1 c2 i1 i2, cs = c1 ++ c2 ∧ c1.length = sz a ∧ ids = i1 ++ i2 ∧ i1.length = cntM a m.fst ∧ LendOk w R a m.fst c1 i1 ∧ LendOk w R b m.snd c2 i2
  | .slc _, .own _, cs, ids => ∃ r q c, ids = [(r, q)] ∧ cs = [c] ∧ lev q = 0 ∧ RefOK w R r q c
  | .mp _ _, .own _, cs, ids => ∃ r q c, ids = [(r, q)] ∧ cs = [c] ∧ lev q = 0 ∧ RefOK w R r q c
  | _, _, _, ids => ids = []
def RwOk (w : World) (R : Real) : List PK → List Value → List (Nat × Path) → Prop
  | [], _, rw => rw = []
  | .row t m :: ps, vs, rw => ∃ v vs' cs i1 i2, vs = v :: vs' ∧ rw = i1 ++ i2 ∧ i1.length = cntM t m ∧ pack t cs v ∧ LendOk w R t m cs i1 ∧ RwOk w R ps vs' i2
  | _ :: ps, vs, rw => ∃ v vs', vs = v :: vs' ∧ RwOk w R ps vs' rw
def IoOk (R : Real) : List PK → List Value → List Nat → Prop
  | [], _, io => io = []
  | .io e t m :: ps, vs, io => ∃ r io' vs' b rb, io = r :: io' ∧ vs = .pointer (some ⟨(blkOf b rb), 0, none⟩) :: vs' ∧ R r = some (b, rb) ∧ b.mem = some e ∧ b.t = t ∧ IoOk R ps vs' io'
  | .row _ _ :: ps, vs, io => ∃ v vs', vs = v :: vs' ∧ IoOk R ps vs' io
  | .ro _ :: ps, vs, io => ∃ v vs', vs = v :: vs' ∧ IoOk R ps vs' io
  | .mv _ _ :: ps, vs, io => ∃ v vs', vs = v :: vs' ∧ IoOk R ps vs' io
  | .fn _ _ :: ps, vs, io => ∃ v vs', vs = v :: vs' ∧ IoOk R ps vs' io
  | .nil :: ps, vs, io => ∃ v vs', vs = v :: vs' ∧ IoOk R ps vs' io
  | .lk _ :: ps, vs, io => ∃ v vs', vs = v :: vs' ∧ IoOk R ps vs' io
theorem pack_of {s : SV} {t : Ty} {cs : List Value} {v : Value} (h : if isAgg s = true then v = .agg cs.toArray else cs = [v]) (e : isAgg s = aggTy t) : pack t cs v := by
  unfold pack; rw [← e]; exact h
section
variable {P : Program} {G : Gl} {I0 : Nat → Prop} {st st0 st1 : St} {a : Act} {vs : Array Value} {w w' : World} {Im Im0 Im' : Nat → Prop} {R R0 R' : Real} {hand hand' : Frag} {o : Oper} {T : Type} {r0 : T} {E : Env}
theorem LkOk.grow (g : ∀ k, Im k → Im' k) {t : Ty} {x : den t} {v : Value} : LkOk w Im t x v → LkOk w Im' t x v := by
  rintro ⟨b, o, c, e, fz, h1, h2, h3, h4⟩
  exact ⟨b, o, c, e, fz, h1, g b h2, h3, h4.frame g (fun _ _ => rfl)⟩
theorem CapsOk.grow (g : ∀ k, Im k → Im' k) : ∀ {ts : List (Bool × Ty)} {y : denL ts} {us : List Value}, CapsOk w Im ts y us → CapsOk w Im' ts y us := by
  intro ts
  induction ts with
  | nil => intro y us h; exact h
  | cons t ts ih =>
    obtain ⟨k, t⟩ := t
    cases k with
    | false =>
      rintro y us ⟨v, vs', cs, e, e1, e2, e3⟩
      exact ⟨v, vs', cs, e, e1, e2.frame g (fun _ _ => rfl), ih e3⟩
    | true =>
      rintro y us ⟨v, vs', e, e2, e3⟩
      exact ⟨v, vs', e, e2.grow g, ih e3⟩
theorem lookP_some (h : Inv G st vs w Im R hand) {s : SV} {t : Ty} {K : den t → Option T} {cs : List Value} (hk : lookP st.boxes s t K = some r0) (hs : SVX w Im R s false cs) : ∃ x v, K x = some r0 ∧ cs = [v] ∧ isAgg s = false ∧ LkOk w (With Im R (roots s)) t x v := by
  cases s <;> try (simp [lookP] at hk; done)
  · rename_i r q
    cases q with
    | cons a q => simp [lookP] at hk
    | nil =>
      simp only [lookP] at hk
      split at hk
      · rename_i b hb
        split at hk
        · rename_i hl
          split at hk
          · rename_i ht
            subst ht
            obtain ⟨rb, hrr⟩ := h.real hb
            obtain ⟨v, e1, hp⟩ := hs
            obtain ⟨_, cs2, b', o', hn, e3⟩ := hp b rb hrr
            obtain ⟨e, hm⟩ := Option.isSome_iff_exists.1 hl.1
            simp only [nav, locOf, hm, Option.map_some, Option.some.injEq, Prod.mk.injEq] at hn
            obtain ⟨rfl, rfl, rfl⟩ := hn
            have hf : fragOf b rb = (blkOf b rb, .cells rb.cs.toArray e) :: rb.h := by unfold fragOf; rw [hm]
            have hrep := h.rep r b rb hrr
            refine ⟨b.x, v, hk, e1, rfl, blkOf b rb, 0, rb.cs.toArray, e, (0, 0), e3, .inr ⟨r, b, rb, by simp [roots], hrr, ?_⟩, ?_, ?_⟩
            · rw [hf]; simp [keys]
            · exact h.heapOK hrr _ (by rw [hf]; exact List.mem_cons_self ..)
            · rw [List.drop_zero, List.take_of_length_le (by rw [hrep.len]; exact Nat.le_refl _)]
              refine Rep.freeze (w' := w) hl.2 (fun k hk => .inl hk) (fun _ _ => rfl) (fun p hp => ⟨.inr ⟨r, b, rb, by simp [roots], hrr, keys_mem.2 ⟨p, fragOf_sub p hp, rfl⟩⟩, ?_⟩) hrep
              exact h.heapOK hrr p (fragOf_sub p hp)
          · cases hk
        · cases hk
      · cases hk
  · rename_i t' x
    simp only [lookP] at hk
    split at hk
    · rename_i e
      subst e
      obtain ⟨b, o, c, e, fz, e1, e2, e3, e4⟩ := hs
      exact ⟨x, _, hk, e1, rfl, b, o, c, e, fz, rfl, .inl e2, e3, e4.frame (fun k hk => .inl hk) (fun _ _ => rfl)⟩
    · cases hk
theorem lookL_some (h : Inv G st vs w Im R hand) : ∀ {ts : List (Bool × Ty)} {s : SV} {K : denL ts → Option T} {us : List Value}, lookL st.boxes ts s K = some r0 → SVX w Im R s true us → ∃ x, K x = some r0 ∧ CapsOk w (With Im R (roots s)) ts x us := by
  intro ts
  induction ts with
  | nil =>
    intro s K us hk hs
    cases s <;> simp [lookL] at hk
    obtain ⟨_, hs⟩ := hs
    exact ⟨(), hk, hs⟩
  | cons t ts ih =>
    obtain ⟨kd, t⟩ := t
    intro s K us hk hs
    cases kd with
    | false =>
      cases s <;> simp [lookL] at hk
      rename_i a b
      obtain ⟨ha, hk⟩ := hk
      obtain ⟨_, v, vs', e, h1, h2⟩ := hs
      subst e
      rcases h1 with h1 | ⟨cs, e1, h1⟩
      · subst h1; simp [look] at hk
      · obtain ⟨x, hk, r1⟩ := look_some h hk h1
        obtain ⟨y, hk, r2⟩ := ih hk h2
        exact ⟨(x, y), hk, v, vs', cs, rfl, pack_of e1 ha, r1.frame (With.mono fun r hr => by simp [roots, hr]) (fun _ _ => rfl), r2.grow (With.mono fun r hr => by simp [roots, hr])⟩
    | true =>
      cases s <;> simp [lookL] at hk
      rename_i a b
      obtain ⟨_, v, vs', e, h1, h2⟩ := hs
      subst e
      rcases h1 with h1 | ⟨cs, e1, h1⟩
      · subst h1; simp [lookP] at hk
      · obtain ⟨x, u, hk, ecs, hag, r1⟩ := lookP_some h hk h1
        obtain ⟨y, hk, r2⟩ := ih hk h2
        rw [hag, if_neg (by simp)] at e1
        rw [ecs] at e1; cases e1
        exact ⟨(x, y), hk, v, vs', rfl, r1.grow (With.mono fun r hr => by simp [roots, hr]), r2.grow (With.mono fun r hr => by simp [roots, hr])⟩
theorem look_ne {s : SV} {bs : List (Nat × Bx)} {t : Ty} {K : den t → Option T} (hk : look bs s t K = some r0) : s ≠ .undef ∧ s ≠ .tnil ∧ ∀ a b, s ≠ .tcons a b := by
  refine ⟨?_, ?_, ?_⟩
  · intro h; rw [h] at hk; simp [look] at hk
  · intro h; rw [h] at hk; simp [look] at hk
  · intro a b h; rw [h] at hk; simp [look] at hk
theorem LendOk.mono : ∀ {t : Ty} {m : Md} {cs : List Value} {ids : List (Nat × Path)}, (∀ r q c, (r, q) ∈ ids → lev q = 0 → RefOK w R r q c → RefOK w' R' r q c) → LendOk w R t m cs ids → LendOk w' R' t m cs ids
  | .pair a b, m, cs, ids, hr, ⟨c1, c2, i1, i2, e1, e2, e3, e4, h1, h2⟩ => ⟨c1, c2, i1, i2, e1, e2, e3, e4, h1.mono fun r q c hm => hr r q c (by rw [e3]; exact List.mem_append_left _ hm), h2.mono fun r q c hm => hr r q c (by rw [e3]; exact List.mem_append_right _ hm)⟩
  | .slc t, .own _, cs, ids, hr, ⟨r, q, c, e1, e2, e3, e4⟩ => ⟨r, q, c, e1, e2, e3, hr r q c (by rw [e1]; exact List.mem_cons_self ..) e3 e4⟩
  | .mp k v, .own _, cs, ids, hr, ⟨r, q, c, e1, e2, e3, e4⟩ => ⟨r, q, c, e1, e2, e3, hr r q c (by rw [e1]; exact List.mem_cons_self ..) e3 e4⟩
  | .slc _, .ro, _, _, _, h => h
  | .slc _, .dead, _, _, _, h => h
  | .slc _, .rz, _, _, _, h => h
  | .slc _, .pair _ _, _, _, _, h => h
  | .mp _ _, .ro, _, _, _, h => h
  | .mp _ _, .dead, _, _, _, h => h
  | .mp _ _, .rz, _, _, _, h => h
  | .mp _ _, .pair _ _, _, _, _, h => h
  | .int _, _, _, _, _, h => h
  | .bool, _, _, _, _, h => h
  | .str, _, _, _, _, h => h
  | .raw, _, _, _, _, h => h
  | .unit, _, _, _, _, h => h
theorem RwOk.mono : ∀ {ps : List PK} {vs : List Value} {rw' : List (Nat × Path)}, (∀ r q c, (r, q) ∈ rw' → lev q = 0 → RefOK w R r q c → RefOK w' R' r q c) → RwOk w R ps vs rw' → RwOk w' R' ps vs rw'
  | [], _, _, _, h => h
  | .row t m :: ps, vs, rw', hr, ⟨v, vs', cs, i1, i2, e1, e2, e3, e4, h1, h2⟩ => ⟨v, vs', cs, i1, i2, e1, e2, e3, e4, h1.mono fun r q c hm => hr r q c (by rw [e2]; exact List.mem_append_left _ hm), RwOk.mono (ps := ps) (fun r q c hm => hr r q c (by rw [e2]; exact List.mem_append_right _ hm)) h2⟩
  | .ro _ :: ps, _, _, hr, ⟨v, vs', e, h⟩ => ⟨v, vs', e, RwOk.mono (ps := ps) hr h⟩
  | .mv _ _ :: ps, _, _, hr, ⟨v, vs', e, h⟩ => ⟨v, vs', e, RwOk.mono (ps := ps) hr h⟩
  | .io _ _ _ :: ps, _, _, hr, ⟨v, vs', e, h⟩ => ⟨v, vs', e, RwOk.mono (ps := ps) hr h⟩
  | .fn _ _ :: ps, _, _, hr, ⟨v, vs', e, h⟩ => ⟨v, vs', e, RwOk.mono (ps := ps) hr h⟩
  | .nil :: ps, _, _, hr, ⟨v, vs', e, h⟩ => ⟨v, vs', e, RwOk.mono (ps := ps) hr h⟩
  | .lk _ :: ps, _, _, hr, ⟨v, vs', e, h⟩ => ⟨v, vs', e, RwOk.mono (ps := ps) hr h⟩
theorem ref_moves {Im Im' : Nat → Prop} {R R' : Real} (hsv : ∀ {s : SV} {c : List Value}, SVX w Im R s false c → SVX w Im' R' (V.shallow s) false c) {r : Nat} {q : Path} {c : Value} (h0 : lev q = 0) (h : RefOK w R r q c) : RefOK w R' r q c := by
  have := hsv (s := .ref r q) (c := [c]) ⟨c, rfl, h⟩
  rw [show V.shallow (.ref r q) = .ref r q by simp [V.shallow, V.forget, h0]] at this
  obtain ⟨v, e, h⟩ := this
  simp only [List.cons.injEq, and_true] at e
  rw [e]; exact h
theorem lend_con (w : World) (R : Real) : ∀ {t : Ty} {m : Md} {cs : List Value}, cs.length = sz t → sameM t .ro m = true → LendOk w R t m cs [] ∧ cntM t m = 0
  | .pair a b, m, cs, hl, hs => by
    simp only [sameM, Bool.and_eq_true] at hs
    have h1 := lend_con w R (t := a) (m := m.fst) (cs := cs.take (sz a)) (by rw [List.length_take, hl]; simp [sz]) hs.1
    have h2 := lend_con w R (t := b) (m := m.snd) (cs := cs.drop (sz a)) (by rw [List.length_drop, hl]; simp [sz]) hs.2
    exact ⟨⟨_, _, [], [], (List.take_append_drop (sz a) cs).symm, by rw [List.length_take, hl]; simp [sz], rfl, by rw [h1.2]; rfl, h1.1, h2.1⟩, by simp only [cntM]; rw [h1.2, h2.2]⟩
  | .slc t, .ro, _, _, _ => ⟨rfl, rfl⟩
  | .slc t, .own _, _, _, hs => by simp [sameM] at hs
  | .slc t, .dead, _, _, hs => by simp [sameM] at hs
  | .slc t, .rz, _, _, hs => by simp [sameM] at hs
  | .slc t, .pair _ _, _, _, hs => by simp [sameM] at hs
  | .mp _ _, .ro, _, _, _ => ⟨rfl, rfl⟩
  | .mp _ _, .own _, _, _, hs => by simp [sameM] at hs
  | .mp _ _, .dead, _, _, hs => by simp [sameM] at hs
  | .mp _ _, .rz, _, _, hs => by simp [sameM] at hs
  | .mp _ _, .pair _ _, _, _, hs => by simp [sameM] at hs
  | .int _, _, _, _, _ => ⟨rfl, rfl⟩
  | .bool, _, _, _, _ => ⟨rfl, rfl⟩
  | .str, _, _, _, _ => ⟨rfl, rfl⟩
  | .raw, _, _, _, _ => ⟨rfl, rfl⟩
  | .unit, _, _, _, _ => ⟨rfl, rfl⟩
theorem con_val {t' t : Ty} {x : den t'} {m : Md} {K : den t → Option T} (hk : (if h : t' = t then (if sameM t .ro m = true then K (h ▸ x) else none) else none) = some r0) : ∃ h : t' = t, sameM t .ro m = true ∧ K (h ▸ x) = some r0 := by
  split at hk
  · rename_i e
    split at hk
    · rename_i hm; exact ⟨e, hm, hk⟩
    · cases hk
  · cases hk
theorem lend_some : ∀ {t : Ty} {m : Md} {s : SV} {st : St} {R : Real} {hand : Frag} {K : den t → List (Nat × Path) → St → Option T} {cs : List Value}, lendS st s t m K = some r0 → Inv G st vs w Im R hand → SVX w Im R s false cs →
    ∃ x ids st' R' h1, K x ids st' = some r0 ∧ Inv G st' vs w Im R' (hand ++ h1) ∧ Rep w Im t m x cs h1 ∧ (∀ {s : SV} {c : List Value}, SVX w Im R s false c → SVX w Im R' (V.shallow s) false c) ∧ (∀ j, j ∉ roots s → R' j = R j) ∧ ids.length = cntM t m ∧ LendOk w R' t m cs ids := by
  intro t
  have con : ∀ {t : Ty} {m : Md} {t' : Ty} {x : den t'} {st : St} {R : Real} {hand : Frag} {K : den t → List (Nat × Path) → St → Option T} {cs : List Value}, (if h : t' = t then (if sameM t .ro m = true then K (h ▸ x) [] st else none) else none) = some r0 → Inv G st vs w Im R hand → SVX w Im R (.con t' x) false cs →
      ∃ y ids st' R' h1, K y ids st' = some r0 ∧ Inv G st' vs w Im R' (hand ++ h1) ∧ Rep w Im t m y cs h1 ∧ (∀ {s : SV} {c : List Value}, SVX w Im R s false c → SVX w Im R' (V.shallow s) false c) ∧ (∀ j, j ∉ roots (.con t' x) → R' j = R j) ∧ ids.length = cntM t m ∧ LendOk w R' t m cs ids := by
    intro t m t' x st R hand K cs hk h hs
    obtain ⟨e, hm, hk⟩ := con_val (K := fun x => K x [] st) hk
    subst e
    have hs : Rep w Im _ .ro x cs [] := hs
    obtain ⟨l1, l2⟩ := lend_con w R hs.len hm
    exact ⟨x, [], st, R, [], hk, by rw [List.append_nil]; exact h, hs.same hm, fun hx => hx.forget_more _, fun _ _ => rfl, by rw [l2]; rfl, l1⟩
  induction t with
  | pair a b iha ihb =>
    intro m s st R hand K cs hk h hs
    cases s <;> simp only [lendS, reduceCtorEq] at hk
    · exact con hk h hs
    · rename_i s1 s2
      obtain ⟨c1, c2, e, x1, x2⟩ := hs
      obtain ⟨x, i, st1, R1, h1, hk, hi1, r1, v1, q1, n1, l1⟩ := iha hk h x1
      obtain ⟨y, j, st2, R2, h2, hk, hi2, r2, v2, q2, n2, l2⟩ := ihb hk hi1 (v1 x2)
      refine ⟨(x, y), i ++ j, st2, R2, h1 ++ h2, hk, by rw [← List.append_assoc]; exact hi2, ⟨c1, c2, h1, h2, e, rfl, r1, r2⟩, fun hx => ?_, fun j hj => ?_, by rw [List.length_append, n1, n2]; rfl, ⟨c1, c2, i, j, e, r1.len, rfl, n1, l1.mono fun r q c _ h0 hr => ref_moves v2 h0 hr, l2⟩⟩
      · have := v2 (v1 hx)
        rwa [shallow_shallow] at this
      · simp only [roots, List.mem_append, not_or] at hj
        rw [q2 j (fun hm => hj.2 (roots_forget _ _ j hm)), q1 j hj.1]
  | slc t ih =>
    intro m s st R hand K cs hk h hs
    cases s with
    | con t' x => exact con (by simpa only [lendS] using hk) h hs
    | ref r q =>
      cases m with
      | own m =>
        simp only [lendS] at hk
        split at hk
        · rename_i h0
          obtain ⟨b, m', hb, e, hm, hk⟩ := rowAt_some hk
          obtain ⟨v, e1, hr⟩ := hs
          subst e1
          obtain ⟨R', h1, hi, hrep, hsv, hq⟩ := h.take hb hr h0 (by rw [e]; rfl) hm
          have hrep := hrep.cast e
          rw [hm] at hrep
          split at hk
          · rename_i hsm
            exact ⟨_, [(r, q)], _, R', h1, hk, hi, hrep.same (t := .slc t) (m := .own m') (n := .own m) hsm, hsv, fun j hj => hq j (by simpa [roots] using hj), rfl, ⟨r, q, v, rfl, rfl, h0, ref_moves hsv h0 hr⟩⟩
          · cases hk
        · cases hk
      | _ => simp [lendS] at hk
    | _ => cases m <;> simp [lendS] at hk
  | mp k v ihk ihv =>
    intro m s st R hand K cs hk h hs
    cases s with
    | con t' x => exact con (by simpa only [lendS] using hk) h hs
    | ref r q =>
      cases m with
      | own m =>
        simp only [lendS] at hk
        split at hk
        · rename_i h0
          obtain ⟨b, m', hb, e, hm, hk2⟩ := mapAt_some hk
          clear hk
          obtain ⟨u, e1, hr⟩ := hs
          subst e1
          obtain ⟨R', h1, hi, hrep, hsv, hq⟩ := h.take hb hr h0 (by rw [e]; rfl) hm
          have hrep := hrep.cast e
          rw [hm] at hrep
          split at hk2
          · rename_i hsm
            exact ⟨_, [(r, q)], _, R', h1, hk2, hi, by rw [← hsm]; exact hrep, hsv, fun j hj => hq j (by simpa [roots] using hj), rfl, ⟨r, q, u, rfl, rfl, h0, ref_moves hsv h0 hr⟩⟩
          · cases hk2
        · cases hk
      | _ => simp [lendS] at hk
    | _ => cases m <;> simp [lendS] at hk
  | _ =>
    intro m s st R hand K cs hk h hs
    cases s with
    | con t' x => exact con (by simpa only [lendS] using hk) h hs
    | _ => simp [lendS] at hk
theorem lend_ne {st : St} {s : SV} {t : Ty} {m : Md} {K : den t → List (Nat × Path) → St → Option T} (h : lendS st s t m K = some r0) : s ≠ .undef ∧ s ≠ .tnil ∧ ∀ a b, s ≠ .tcons a b := by
  refine ⟨?_, ?_, ?_⟩
  · rintro rfl; cases t <;> cases m <;> simp [lendS] at h
  · rintro rfl; cases t <;> cases m <;> simp [lendS] at h
  · rintro a b rfl; cases t <;> cases m <;> simp [lendS] at h
theorem lend_cv {st : St} {s : SV} {t : Ty} {m : Md} {K : den t → List (Nat × Path) → St → Option T} {v : Value} (hk : lendS st s t m K = some r0) (h : Inv G st vs w Im R hand) (hs : CV w Im R s v) :
    ∃ cs x ids st' R' h1, (if isAgg s = true then v = .agg cs.toArray else cs = [v]) ∧ K x ids st' = some r0 ∧ Inv G st' vs w Im R' (hand ++ h1) ∧ Rep w Im t m x cs h1 ∧ (∀ {s : SV} {c : List Value}, SVX w Im R s false c → SVX w Im R' (V.shallow s) false c) ∧ (∀ j, j ∉ roots s → R' j = R j) ∧ ids.length = cntM t m ∧ LendOk w R' t m cs ids := by
  obtain ⟨n1, n2, n3⟩ := lend_ne hk
  obtain ⟨cs, e, hx⟩ := hs n1 n2 n3
  obtain ⟨x, ids, st', R', h1, k⟩ := lend_some hk h hx
  exact ⟨cs, x, ids, st', R', h1, e, k⟩
theorem args_some (h0 : Inv G st0 vs w Im0 R0 []) : ∀ {ps : List PK} {l : List (SV × Value)} {st : St} {Im : Nat → Prop} {R : Real} {hand : Frag} {K : ArgT ps → List Nat → List Nat → List Nat → List (Nat × Path) → St → Option T},
    args st0.boxes ps (l.map (·.1)) st K = some r0 → Inv G st vs w Im R hand → (∀ p ∈ l, CV w Im0 R0 p.1 p.2) → (∀ p ∈ l, CV w Im R (V.shallow p.1) p.2) →
    ∃ x io lo mv rw' st' Im' R' h1 H, K x io lo mv rw' st' = some r0 ∧ RwOk w R' ps (l.map (·.2)) rw' ∧ Inv G st' vs w Im' R' (hand ++ h1) ∧ Grow w w Im Im' ∧ (∀ j, j ∉ mv → R' j = R j) ∧
      (∀ {s : SV} {c : List Value}, SVX w Im R s false c → SVX w Im' R' (V.shallow s) false c) ∧ List.Perm H (h1 ++ ioFrag R' io) ∧ IoOk R' ps (l.map (·.2)) io ∧
      (∀ Imc : Nat → Prop, (∀ k, Im' k → Imc k) → (∀ k, With Im0 R0 lo k → Imc k) → ArgsOk w Imc ps x (l.map (·.2)) H) := by
  intro ps
  induction ps with
  | nil =>
    intro l st Im R hand K hk h hs hs'
    cases l with
    | nil => exact ⟨(), [], [], [], [], st, Im, R, [], [], hk, rfl, by rw [List.append_nil]; exact h, Grow.refl _ _, fun _ _ => rfl, fun hx => hx.forget_more _, List.Perm.refl _, rfl, fun _ _ _ => ⟨rfl, rfl⟩⟩
    | cons p l => simp [args] at hk
  | cons pk ps ih =>
    intro l st Im R hand K hk h hs hs'
    cases l with
    | nil => cases pk <;> simp [args] at hk
    | cons p l =>
      obtain ⟨s, v⟩ := p
      have hsl : ∀ p ∈ l, CV w Im0 R0 p.1 p.2 := fun p hp => hs p (List.mem_cons_of_mem _ hp)
      have hsl' : ∀ p ∈ l, CV w Im R (V.shallow p.1) p.2 := fun p hp => hs' p (List.mem_cons_of_mem _ hp)
      have hs1 : CV w Im0 R0 s v := hs (s, v) (List.mem_cons_self ..)
      have hs1' : CV w Im R (V.shallow s) v := hs' (s, v) (List.mem_cons_self ..)
      cases pk with
      | ro t =>
        simp only [List.map_cons, args] at hk
        split at hk
        · rename_i ha
          obtain ⟨n1, n2, n3⟩ := look_ne hk
          obtain ⟨cs, e1, hx⟩ := hs1 n1 n2 n3
          obtain ⟨x, hk, hrep⟩ := look_some h0 hk hx
          obtain ⟨y, io, lo, mv, rw', st', Im', R', h1, H, k1, kr, k2, k3, k4, k5, k6, k7, k8⟩ := ih hk h hsl hsl'
          refine ⟨(x, y), io, roots s ++ lo, mv, rw', st', Im', R', h1, H, k1, ⟨v, _, rfl, kr⟩, k2, k3, k4, k5, k6, ⟨v, _, rfl, k7⟩, fun Imc c1 c2 => ⟨v, _, cs, rfl, pack_of e1 ha, ?_, k8 Imc c1 fun k hk => c2 k (With.mono (fun r hr => by simp [hr]) k hk)⟩⟩
          exact hrep.frame (fun k hk => c2 k (With.mono (fun r hr => by simp [hr]) k hk)) (fun _ _ => rfl)
        · cases hk
      | mv t m =>
        simp only [List.map_cons, args] at hk
        split at hk
        · rename_i ha
          obtain ⟨cs, x, m', st1, Im1, R1, g1, e1, e2, hk, hi, hrep, g, hsv, hq⟩ := toC_cv hk h hs1'
          split at hk
          · rename_i hm
            obtain ⟨y, io, lo, mv, rw', st', Im', R', h1, H, k1, kr, k2, k3, k4, k5, k6, k7, k8⟩ := ih hk hi hsl (fun p hp => by
              have := (hsl' p hp).next hsv
              rw [show V.forget (fun _ _ q => !decide (lev q = 0)) (V.shallow p.1) = V.shallow p.1 from shallow_shallow p.1] at this
              exact this)
            refine ⟨(x, y), io, lo, roots s ++ mv, rw', st', Im', R', g1 ++ h1, g1 ++ H, k1, ⟨v, _, rfl, kr⟩, by rw [← List.append_assoc]; exact k2, g.trans k3, fun j hj => ?_, fun hx => ?_, ?_, ⟨v, _, rfl, k7⟩, fun Imc c1 c2 => ⟨v, _, cs, g1, H, rfl, rfl, ?_, ?_, k8 Imc c1 c2⟩⟩
            · simp only [List.mem_append, not_or] at hj
              rw [k4 j hj.2, hq j (fun hm => hj.1 (roots_forget _ _ j hm))]
            · have := k5 (hsv hx)
              rwa [shallow_shallow] at this
            · rw [List.append_assoc]; exact List.Perm.append_left _ k6
            · refine pack_of e1 ?_
              rw [← ha]; exact isAgg_forget _ _
            · exact (hrep.same hm).frame (fun k hk => c1 k (k3.im k hk)) (fun _ _ => rfl)
          · cases hk
        · cases hk
      | io e t m =>
        simp only [List.map_cons, args] at hk
        split at hk
        · rename_i r
          obtain ⟨y, io, lo, mv, rw', st', Im', R', h1, H, k1, kr, k2, k3, k4, k5, k6, k7, k8⟩ := ih hk h hsl hsl'
          split at k1
          · rename_i b hb
            split at k1
            · rename_i hmem
              split at k1
              · rename_i hty
                split at k1
                · rename_i hm
                  have esh : V.shallow (.ptr r []) = .ptr r [] := by simp [V.shallow, V.forget, lev]
                  obtain ⟨cs, e1, hx⟩ := hs1' (by rw [esh]; simp) (by rw [esh]; simp) (by rw [esh]; simp)
                  rw [esh, if_neg (by simp [isAgg])] at e1
                  subst e1
                  have hx := k5 hx
                  rw [esh, esh] at hx
                  obtain ⟨u, e2, hp⟩ := hx
                  simp at e2; subst e2
                  obtain ⟨rb, hrr⟩ := k2.real hb
                  obtain ⟨_, cs2, b', o', hn, e3⟩ := hp b rb hrr
                  simp only [nav, locOf, hmem, Option.map_some, Option.some.injEq, Prod.mk.injEq] at hn
                  obtain ⟨rfl, rfl, rfl⟩ := hn
                  have hf : own R' [] (r + 1) = ((blkOf b rb), .cells rb.cs.toArray e) :: rb.h := by
                    rw [own_at hrr]; unfold fragOf; rw [hmem]
                  refine ⟨(hty ▸ b.x, y), r :: io, lo, mv, rw', st', Im', R', h1, ((blkOf b rb), .cells rb.cs.toArray e) :: (rb.h ++ H), k1, ⟨_, _, rfl, kr⟩, k2, k3, k4, k5, ?_, ?_, fun Imc c1 c2 => ⟨_, (blkOf b rb), rb.cs, rb.h, H, by rw [e3]; rfl, rfl, ?_, k8 Imc c1 c2⟩⟩
                  · have : ioFrag R' (r :: io) = (((blkOf b rb), .cells rb.cs.toArray e) :: rb.h) ++ ioFrag R' io := by simp only [ioFrag]; rw [hf]
                    rw [this]
                    have q1 : List.Perm (((blkOf b rb), .cells rb.cs.toArray e) :: (rb.h ++ H)) ((((blkOf b rb), .cells rb.cs.toArray e) :: rb.h) ++ (h1 ++ ioFrag R' io)) := List.Perm.cons _ (List.Perm.append_left _ k6)
                    refine q1.trans ?_
                    rw [← List.append_assoc, ← List.append_assoc]
                    exact List.Perm.append_right _ List.perm_append_comm
                  · exact ⟨r, io, _, b, rb, rfl, by rw [e3]; rfl, hrr, hmem, hty, k7⟩
                  · have := (k2.rep r b rb hrr).cast hty
                    exact (this.same hm).frame c1 (fun _ _ => rfl)
                · cases k1
              · cases k1
            · cases k1
          · cases k1
        · cases hk
      | row t m =>
        simp only [List.map_cons, args] at hk
        split at hk
        · rename_i ha
          obtain ⟨cs, x, ids, st1, R1, g1, e1, hk, hi, hrep, hsv, hq, hlen, hlend⟩ := lend_cv hk h hs1'
          obtain ⟨y, io, lo, mv, rw', st', Im', R', h1, H, k1, kr, k2, k3, k4, k5, k6, k7, k8⟩ := ih hk hi hsl (fun p hp => by
            have := (hsl' p hp).next hsv
            rw [show V.forget (fun _ _ q => !decide (lev q = 0)) (V.shallow p.1) = V.shallow p.1 from shallow_shallow p.1] at this
            exact this)
          have hpk : pack t cs v := pack_of e1 (by rw [← ha]; exact isAgg_forget _ _)
          refine ⟨(x, y), io, lo, roots s ++ mv, ids ++ rw', st', Im', R', g1 ++ h1, g1 ++ H, k1, ⟨v, _, cs, ids, rw', rfl, rfl, hlen, hpk, hlend.mono fun r q c _ h0 hr => ref_moves k5 h0 hr, kr⟩, by rw [← List.append_assoc]; exact k2, k3, fun j hj => ?_, fun hx => ?_, ?_, ⟨v, _, rfl, k7⟩, fun Imc c1 c2 => ⟨v, _, cs, g1, H, rfl, rfl, hpk, hrep.frame (fun k hk => c1 k (k3.im k hk)) (fun _ _ => rfl), k8 Imc c1 c2⟩⟩
          · simp only [List.mem_append, not_or] at hj
            rw [k4 j hj.2, hq j (fun hm => hj.1 (roots_forget _ _ j hm))]
          · have := k5 (hsv hx)
            rwa [shallow_shallow] at this
          · rw [List.append_assoc]; exact List.Perm.append_left _ k6
        · cases hk
      | lk t =>
        simp only [List.map_cons, args] at hk
        have n1 : s ≠ .undef ∧ s ≠ .tnil ∧ ∀ a b, s ≠ .tcons a b := by
          refine ⟨?_, ?_, ?_⟩
          · intro h; rw [h] at hk; simp [lookP] at hk
          · intro h; rw [h] at hk; simp [lookP] at hk
          · intro a b h; rw [h] at hk; simp [lookP] at hk
        obtain ⟨cs, e1, hx⟩ := hs1 n1.1 n1.2.1 n1.2.2
        obtain ⟨x, u, hk, ecs, hag, hlk⟩ := lookP_some h0 hk hx
        rw [hag, if_neg (by simp)] at e1
        rw [ecs] at e1; cases e1
        obtain ⟨y, io, lo, mv, rw', st', Im', R', h1, H, k1, kr, k2, k3, k4, k5, k6, k7, k8⟩ := ih hk h hsl hsl'
        exact ⟨(x, y), io, roots s ++ lo, mv, rw', st', Im', R', h1, H, k1, ⟨v, _, rfl, kr⟩, k2, k3, k4, k5, k6, ⟨v, _, rfl, k7⟩, fun Imc c1 c2 => ⟨v, _, rfl, hlk.grow (fun k hk => c2 k (With.mono (fun r hr => by simp [hr]) k hk)), k8 Imc c1 fun k hk => c2 k (With.mono (fun r hr => by simp [hr]) k hk)⟩⟩
      | nil =>
        simp only [List.map_cons, args] at hk
        split at hk
        · obtain ⟨cs, e1, hx⟩ := hs1 (by simp) (by simp) (by simp)
          rw [if_neg (by simp [isAgg])] at e1
          subst e1
          have hx : [v] = [Value.slice none 0 0] := hx
          simp only [List.cons.injEq, and_true] at hx
          subst hx
          obtain ⟨y, io, lo, mv, rw', st', Im', R', h1, H, k1, kr, k2, k3, k4, k5, k6, k7, k8⟩ := ih hk h hsl hsl'
          exact ⟨((), y), io, lo, mv, rw', st', Im', R', h1, H, k1, ⟨_, _, rfl, kr⟩, k2, k3, k4, k5, k6, ⟨_, _, rfl, k7⟩, fun Imc c1 c2 => ⟨_, rfl, k8 Imc c1 c2⟩⟩
        · cases hk
      | fn f ts =>
        simp only [List.map_cons, args] at hk
        split at hk
        · rename_i g caps
          split at hk
          · rename_i hg
            subst hg
            obtain ⟨cs, e1, hx⟩ := hs1 (by simp) (by simp) (by simp)
            rw [if_neg (by simp [isAgg])] at e1
            subst e1
            obtain ⟨cv, e2, hx⟩ := hx
            simp at e2
            obtain ⟨x, hk, hrep⟩ := lookL_some h0 hk hx
            obtain ⟨y, io, lo, mv, rw', st', Im', R', h1, H, k1, kr, k2, k3, k4, k5, k6, k7, k8⟩ := ih hk h hsl hsl'
            refine ⟨(x, y), io, roots caps ++ lo, mv, rw', st', Im', R', h1, H, k1, ⟨_, _, rfl, kr⟩, k2, k3, k4, k5, k6, ⟨_, _, rfl, k7⟩, fun Imc c1 c2 => ⟨_, cv, by rw [e2]; rfl, ?_, k8 Imc c1 fun k hk => c2 k (With.mono (fun r hr => by simp [hr]) k hk)⟩⟩
            exact hrep.grow (fun k hk => c2 k (With.mono (fun r hr => by simp [hr]) k hk))
          · cases hk
        · cases hk
end
end Go.Proofs.YtgdaiifhedpffaaDoor.V
set_option linter.unusedVariables false
set_option linter.unusedSimpArgs false
namespace Go.Proofs.YtgdaiifhedpffaaDoor.V
open Go
def ResOk (w : World) (Im : Nat → Prop) : (rs : List (Ty × Md)) → ResT rs → List Value → Frag → Prop
  | [], _, us, h => us = [] ∧ h = []
  | (t, m) :: rs, x, us, h => ∃ u us' cs h1 h2, us = u :: us' ∧ h = h1 ++ h2 ∧ pack t cs u ∧ Rep w Im t m x.1 cs h1 ∧ ResOk w Im rs x.2 us' h2
section
variable {P : Program} {G : Gl} {st : St} {vs : Array Value} {w w' : World} {Im Im' : Nat → Prop} {R R' : Real} {hand : Frag}
theorem SVX.roots : ∀ {s : SV} {b : Bool} {cs : List Value}, (∀ j ∈ V.roots s, R' j = R j) → SVX w Im R s b cs → SVX w Im R' s b cs
  | .undef, _, _, _, h => h
  | .con t x, _, _, _, h => h
  | .raw v, _, _, _, h => h
  | .emp, _, _, _, h => h
  | .agg a b, _, _, e, ⟨c1, c2, e0, h1, h2⟩ => ⟨c1, c2, e0, h1.roots fun j hj => e j (by simp [V.roots, hj]), h2.roots fun j hj => e j (by simp [V.roots, hj])⟩
  | .ref r q, _, _, e, ⟨v, e0, h⟩ => ⟨v, e0, fun b rb hb => h b rb (by rw [← e r (by simp [V.roots])]; exact hb)⟩
  | .sub r q lo n, _, _, e, ⟨v, e0, u, h1, h2⟩ => ⟨v, e0, u, fun b rb hb => h1 b rb (by rw [← e r (by simp [V.roots])]; exact hb), fun b rb hb => h2 b rb (by rw [← e r (by simp [V.roots])]; exact hb)⟩
  | .ptr r q, _, _, e, ⟨v, e0, h⟩ => ⟨v, e0, fun b rb hb => h b rb (by rw [← e r (by simp [V.roots])]; exact hb)⟩
  | .pro t x, _, _, _, h => h
  | .nul t x, _, _, _, h => h
  | .fn f c, _, _, e, ⟨caps, e0, h⟩ => ⟨caps, e0, h.roots fun j hj => e j (by simpa [V.roots] using hj)⟩
  | .tnil, _, _, _, h => h
  | .tcons a s, _, _, e, ⟨e0, v, vs', e1, h1, h2⟩ => ⟨e0, v, vs', e1, h1.imp id (fun ⟨cs, e2, h⟩ => ⟨cs, e2, h.roots fun j hj => e j (by simp [V.roots, hj])⟩), h2.roots fun j hj => e j (by simp [V.roots, hj])⟩
theorem got_ok {base : Nat} : ∀ {t : Ty} {m : Md} {x : den t} {k : Nat} {st : St} {R : Real} {hand h1 : Frag} {cs : List Value}, Inv G st vs w Im R (hand ++ h1) → Rep w Im t m x cs h1 →
    ∃ R', Inv G (got base t m x k st).2.2 vs w Im R' hand ∧ SVX w Im R' (got base t m x k st).1 false cs ∧ k ≤ (got base t m x k st).2.1 ∧ (∀ j ∈ V.roots (got base t m x k st).1, base + k ≤ j ∧ j < base + (got base t m x k st).2.1) ∧
      (∀ j, (j < base + k ∨ base + (got base t m x k st).2.1 ≤ j) → R' j = R j) ∧ isAgg (got base t m x k st).1 = aggTy t := by
  intro t
  induction t with
  | pair a b iha ihb =>
    intro m x k st R hand h1 cs h hr
    obtain ⟨c1, c2, g1, g2, e1, e2, r1, r2⟩ := hr
    subst e1; subst e2
    obtain ⟨R1, i1, s1, k1, q1, o1, _⟩ := iha (k := k) (st := st) (hand := hand ++ g2) (h.perm (by rw [List.append_assoc]; exact List.Perm.append_left _ List.perm_append_comm)) r1
    obtain ⟨R2, i2, s2, k2, q2, o2, _⟩ := ihb (k := (got base a m.fst x.1 k st).2.1) (st := (got base a m.fst x.1 k st).2.2) i1 r2
    refine ⟨R2, i2, ⟨c1, c2, rfl, s1.roots fun j hj => o2 j (.inl (q1 j hj).2), s2⟩, Nat.le_trans k1 k2, fun j hj => ?_, fun j hj => ?_, rfl⟩
    · have k2' : (got base a m.fst x.1 k st).2.1 ≤ (got base (.pair a b) m x k st).2.1 := k2
      rcases List.mem_append.1 hj with hj | hj
      · have := q1 j hj; omega
      · have q := q2 j hj
        have e : (got base (.pair a b) m x k st).2.1 = (got base b m.snd x.2 (got base a m.fst x.1 k st).2.1 (got base a m.fst x.1 k st).2.2).2.1 := rfl
        rw [e]; omega
    · have e : (got base (.pair a b) m x k st).2.1 = (got base b m.snd x.2 (got base a m.fst x.1 k st).2.1 (got base a m.fst x.1 k st).2.2).2.1 := rfl
      rw [e] at hj
      rw [o2 j (by omega), o1 j (by omega)]
  | slc t ih =>
    intro m x k st R hand h1 cs h hr
    cases m with
    | ro =>
      have := hr.1; subst this
      rw [List.append_nil] at h
      exact ⟨R, h, hr, Nat.le_refl _, fun j hj => by simp [got, V.roots] at hj, fun _ _ => rfl, rfl⟩
    | dead =>
      obtain ⟨⟨v, e, _⟩, e2⟩ := hr
      subst e2; subst e
      rw [List.append_nil] at h
      exact ⟨R, h, rfl, Nat.le_refl _, fun j hj => by simp [got, V.roots] at hj, fun _ _ => rfl, rfl⟩
    | pair a b => exact absurd hr (by simp [Rep])
    | rz =>
      obtain ⟨⟨e2, A, cap, e, _⟩, _⟩ := hr
      subst e2; subst e
      rw [List.append_nil] at h
      exact ⟨R, h, rfl, Nat.le_refl _, fun j hj => by simp [got, V.roots] at hj, fun _ _ => rfl, rfl⟩
    | own m =>
      obtain ⟨v, rfl⟩ : ∃ v, cs = [v] := by
        have := hr.len; simp [sz] at this
        match cs, this with
        | [v], _ => exact ⟨v, rfl⟩
      have hi := h.lay (base + k) (b := { mem := none, t := .slc t, m := .own m, x := x }) (rb := ⟨0, [v], h1⟩) hr rfl
      refine ⟨_, hi, ⟨v, rfl, ?_⟩, Nat.le_succ _, fun j hj => ?_, fun j hj => ?_, rfl⟩
      · intro b2 rb2 hb2
        simp only [if_true] at hb2; cases hb2
        exact ⟨trivial, rfl, none, rfl⟩
      · simp [got, V.roots] at hj ⊢; omega
      · have : j ≠ base + k := by simp [got] at hj; omega
        simp [this]
  | mp kt vt ihk ihv =>
    intro m x k st R hand h1 cs h hr
    have hl := hr.len
    cases m with
    | ro =>
      have := hr.1; subst this
      rw [List.append_nil] at h
      exact ⟨R, h, hr, Nat.le_refl _, fun j hj => by simp [got, V.roots] at hj, fun _ _ => rfl, rfl⟩
    | dead => exact ⟨R, h.drop, hl, Nat.le_refl _, fun j hj => by simp [got, V.roots] at hj, fun _ _ => rfl, rfl⟩
    | pair a b => exact absurd hr (by simp [Rep])
    | rz => exact absurd hr (by simp [Rep])
    | own m =>
      obtain ⟨v, rfl⟩ : ∃ v, cs = [v] := by
        have := hr.len; simp [sz] at this
        match cs, this with
        | [v], _ => exact ⟨v, rfl⟩
      have hi := h.lay (base + k) (b := { mem := none, t := .mp kt vt, m := .own m, x := x }) (rb := ⟨0, [v], h1⟩) hr rfl
      refine ⟨_, hi, ⟨v, rfl, ?_⟩, Nat.le_succ _, fun j hj => ?_, fun j hj => ?_, rfl⟩
      · intro b2 rb2 hb2
        simp only [if_true] at hb2; cases hb2
        exact ⟨trivial, rfl, none, rfl⟩
      · simp [got, V.roots] at hj ⊢; omega
      · have : j ≠ base + k := by simp [got] at hj; omega
        simp [this]
  | _ =>
    intro m x k st R hand h1 cs h hr
    obtain ⟨e, hr2⟩ := flat_any rfl hr
    subst e
    rw [List.append_nil] at h
    exact ⟨R, h, hr2 .ro, Nat.le_refl _, fun j hj => by simp [got, V.roots] at hj, fun _ _ => rfl, rfl⟩
theorem gots_ok {base : Nat} : ∀ {rs : List (Ty × Md)} {x : ResT rs} {k : Nat} {st : St} {R : Real} {hand h1 : Frag} {us : List Value}, Inv G st vs w Im R (hand ++ h1) → ResOk w Im rs x us h1 →
    ∃ R', Inv G (gots base rs x k st).2.2 vs w Im R' hand ∧ SVX w Im R' (gots base rs x k st).1 true us ∧ k ≤ (gots base rs x k st).2.1 ∧ (∀ j, (j < base + k ∨ base + (gots base rs x k st).2.1 ≤ j) → R' j = R j) := by
  intro rs
  induction rs with
  | nil =>
    intro x k st R hand h1 us h hr
    obtain ⟨e1, e2⟩ := hr
    subst e1; subst e2
    rw [List.append_nil] at h
    exact ⟨R, h, ⟨rfl, rfl⟩, Nat.le_refl _, fun _ _ => rfl⟩
  | cons p rs ih =>
    intro x k st R hand h1 us h hr
    obtain ⟨t, m⟩ := p
    obtain ⟨u, us', cs, g1, g2, e1, e2, hp, r1, r2⟩ := hr
    subst e1; subst e2
    obtain ⟨R1, i1, s1, k1, q1, o1, ha⟩ := got_ok (base := base) (k := k) (st := st) (hand := hand ++ g2) (h.perm (by rw [List.append_assoc]; exact List.Perm.append_left _ List.perm_append_comm)) r1
    obtain ⟨R2, i2, s2, k2, o2⟩ := ih (k := (got base t m x.1 k st).2.1) (st := (got base t m x.1 k st).2.2) i1 r2
    refine ⟨R2, i2, ⟨rfl, u, us', rfl, .inr ⟨cs, ?_, s1.roots fun j hj => o2 j (.inl (q1 j hj).2)⟩, s2⟩, Nat.le_trans k1 k2, fun j hj => ?_⟩
    · rw [ha]; exact hp
    · have e : (gots base ((t, m) :: rs) x k st).2.1 = (gots base rs x.2 (got base t m x.1 k st).2.1 (got base t m x.1 k st).2.2).2.1 := rfl
      rw [e] at hj
      rw [o2 j (by omega), o1 j (by omega)]
end
end Go.Proofs.YtgdaiifhedpffaaDoor.V
set_option linter.unusedVariables false
set_option linter.unusedSimpArgs false
namespace Go.Proofs.YtgdaiifhedpffaaDoor.V
open Go
def BackOk (w : World) (Im : Nat → Prop) : (t : Ty) → (m : Md) → RowT t m → List Value → Frag → Prop
  | .pair a b, m, x, cs, h => ∃ c1 c2 h1 h2, cs = c1 ++ c2 ∧ c1.length = sz a ∧ h = h1 ++ h2 ∧ BackOk w Im a m.fst x.1 c1 h1 ∧ BackOk w Im b m.snd x.2 c2 h2
  | .slc t, .own m, x, cs, h => Rep w Im (.slc t) (.own m) x cs h
  | .mp k v, .own m, x, cs, h => Rep w Im (.mp k v) (.own m) x cs h
  | _, _, _, _, h => h = []
def OutsOk (w : World) (Im : Nat → Prop) : (ps : List PK) → OutT ps → List Value → Frag → Prop
  | [], _, _, h => h = []
  | .io e t m :: ps, o, vs, h => ∃ b vs' cs h1 h2, vs = .pointer (some ⟨b, 0, none⟩) :: vs' ∧ h = (b, .cells cs.toArray e) :: (h1 ++ h2) ∧ Rep w Im t m o.1 cs h1 ∧ OutsOk w Im ps o.2 vs' h2
  | .row t m :: ps, o, vs, h => ∃ v vs' cs h1 h2, vs = v :: vs' ∧ h = h1 ++ h2 ∧ pack t cs v ∧ BackOk w Im t m o.1 cs h1 ∧ OutsOk w Im ps o.2 vs' h2
  | .ro _ :: ps, o, vs, h => ∃ v vs', vs = v :: vs' ∧ OutsOk w Im ps o vs' h
  | .mv _ _ :: ps, o, vs, h => ∃ v vs', vs = v :: vs' ∧ OutsOk w Im ps o vs' h
  | .fn _ _ :: ps, o, vs, h => ∃ v vs', vs = v :: vs' ∧ OutsOk w Im ps o vs' h
  | .nil :: ps, o, vs, h => ∃ v vs', vs = v :: vs' ∧ OutsOk w Im ps o vs' h
  | .lk _ :: ps, o, vs, h => ∃ v vs', vs = v :: vs' ∧ OutsOk w Im ps o vs' h
def valOf : List Value → Value
  | [u] => u
  | us => .tuple us.toArray
def leafOf : Ty → Md → List Value → Option (Ty × Value)
  | .pair a b, m, cs => if cntM a m.fst = 1 then leafOf a m.fst (cs.take (sz a)) else leafOf b m.snd (cs.drop (sz a))
  | .slc t, .own _, [c] => some (.slc t, c)
  | .mp k v, .own _, [c] => some (.mp k v, c)
  | _, _, _ => none
def SubAr (et : Ty) (u v : Value) (lo n : Nat) : Prop := ∃ t0 A len cap A' cap', et = .slc (.slc t0) ∧ u = .slice A len cap ∧ v = .slice A' n cap' ∧ lo + n ≤ len ∧ n ≤ cap' ∧ lo + cap' ≤ cap ∧ (0 < cap' → A' = A.map fun a => a.add (lo * sz t0))
def PartOk (w : World) (ps : List PK) (rs : List (Ty × Md)) (x : ResT rs) (vs : List Value) (v : Value) : Prop :=
  ∃ t m ps' v0 vs' cs c et j lo n u ad, ps = .row t m :: ps' ∧ vs = v0 :: vs' ∧ pack t cs v0 ∧ leafOf t m cs = some (et, c) ∧ trip rs x = some (j, lo, n) ∧ nav w et [c] none [.idx j] = some ([u], ad) ∧ SubAr et u v lo n
def GiveOk (w : World) (Im : Nat → Prop) (sm : Sm) (x : ResT sm.rs) (vs us : List Value) (h : Frag) : Prop :=
  (sm.part = false ∧ ResOk w Im sm.rs x us h) ∨ (sm.part = true ∧ h = [] ∧ ∃ v, us = [v] ∧ PartOk w sm.ps sm.rs x vs v)
def SmOk (P : Program) (f : FuncId) (sm : Sm) : Prop :=
  ∀ (w : World) (Im : Nat → Prop) (vs : List Value) (x : ArgT sm.ps) (h : Frag) (r : ResT sm.rs × OutT sm.ps), (∀ k, Im k → k < w.heap.size) → ArgsOk w Im sm.ps x vs h → HeapOK w h → (keys h).Nodup → (∀ k ∈ keys h, ¬ Im k) → sm.F x = some r →
    Calls P f vs.toArray w fun e w' => ∃ us ImN h1 h2, e = .returned (valOf us) ∧ GiveOk w' ImN sm r.1 vs us h1 ∧ OutsOk w' ImN sm.ps r.2 vs h2 ∧ HeapOK w' (h1 ++ h2) ∧ (keys (h1 ++ h2)).Nodup ∧
      (∀ k ∈ keys (h1 ++ h2), ¬ ImN k ∧ (w.heap.size ≤ k ∨ k ∈ keys h)) ∧ Grow w w' Im ImN ∧ (∀ k, ImN k → k < w'.heap.size ∧ (Im k ∨ w.heap.size ≤ k ∨ k ∈ keys h)) ∧ Keep ⟨w, keys h, Im, fun _ _ => .bool false⟩ w'
theorem Tab.find_mem : ∀ {T : Tab} {f : FuncId} {ss : List SV} {sm : Sm}, Tab.find T f ss = some sm → (f, sm) ∈ T
  | (j, b) :: l, f, ss, sm, h => by
    simp only [Tab.find] at h
    split at h
    · rename_i e; subst e
      split at h
      · cases h; exact List.mem_cons_self ..
      · exact List.mem_cons_of_mem _ (Tab.find_mem h)
    · exact List.mem_cons_of_mem _ (Tab.find_mem h)
section
variable {P : Program} {G : Gl} {I0 : Nat → Prop} {st st0 st1 : St} {a : Act} {vs : Array Value} {w w' : World} {Im Im0 Im' : Nat → Prop} {R R0 R' : Real} {hand hand' : Frag} {o : Oper} {T : Type} {r0 : T} {E : Env}
theorem ResOk.conv {ImN Im2 : Nat → Prop} : ∀ {rs : List (Ty × Md)} {x : ResT rs} {us : List Value} {h : Frag}, ((∀ k, ImN k → Im2 k) ∨ (rs.all fun p => V.noRo p.1 p.2) = true) → ResOk w ImN rs x us h → ResOk w Im2 rs x us h
  | [], _, _, _, _, r => r
  | (t, m) :: rs, x, us, h, hc, ⟨u, us', cs, h1, h2, e1, e2, e3, r1, r2⟩ => by
    refine ⟨u, us', cs, h1, h2, e1, e2, e3, ?_, r2.conv (hc.imp id fun h => ?_)⟩
    · rcases hc with hc | hc
      · exact r1.frame hc (fun _ _ => rfl)
      · simp only [List.all_cons, Bool.and_eq_true] at hc; exact r1.noRo hc.1
    · simp only [List.all_cons, Bool.and_eq_true] at h; exact h.2
theorem BackOk.conv {ImN Im2 : Nat → Prop} : ∀ {t : Ty} {m : Md} {x : RowT t m} {cs : List Value} {h : Frag}, ((∀ k, ImN k → Im2 k) ∨ V.noRo t m = true) → BackOk w ImN t m x cs h → BackOk w Im2 t m x cs h
  | .pair a b, m, x, cs, h, hc, ⟨c1, c2, h1, h2, e1, e2, e3, r1, r2⟩ => by
    refine ⟨c1, c2, h1, h2, e1, e2, e3, r1.conv (hc.imp id fun h => ?_), r2.conv (hc.imp id fun h => ?_)⟩
    · simp only [V.noRo, Bool.and_eq_true] at h; exact h.1
    · simp only [V.noRo, Bool.and_eq_true] at h; exact h.2
  | .slc t, .own m, x, cs, h, hc, r => by
    rcases hc with hc | hc
    · exact Rep.frame (t := .slc t) (m := .own m) hc (fun _ _ => rfl) r
    · exact Rep.noRo (t := .slc t) (m := .own m) hc r
  | .mp k v, .own m, x, cs, h, hc, r => by
    rcases hc with hc | hc
    · exact Rep.frame (t := .mp k v) (m := .own m) hc (fun _ _ => rfl) r
    · exact Rep.noRo (t := .mp k v) (m := .own m) hc r
  | .slc _, .ro, _, _, _, _, r => r
  | .slc _, .dead, _, _, _, _, r => r
  | .slc _, .rz, _, _, _, _, r => r
  | .slc _, .pair _ _, _, _, _, _, r => r
  | .mp _ _, .ro, _, _, _, _, r => r
  | .mp _ _, .dead, _, _, _, _, r => r
  | .mp _ _, .rz, _, _, _, _, r => r
  | .mp _ _, .pair _ _, _, _, _, _, r => r
  | .int _, _, _, _, _, _, r => r
  | .bool, _, _, _, _, _, r => r
  | .str, _, _, _, _, _, r => r
  | .raw, _, _, _, _, _, r => r
  | .unit, _, _, _, _, _, r => r
theorem OutsOk.conv {ImN Im2 : Nat → Prop} : ∀ {ps : List PK} {x : OutT ps} {us : List Value} {h : Frag}, ((∀ k, ImN k → Im2 k) ∨ psNoRo ps = true) → OutsOk w ImN ps x us h → OutsOk w Im2 ps x us h
  | [], _, _, _, _, r => r
  | .io e t m :: ps, x, us, h, hc, ⟨b, us', cs, h1, h2, e1, e2, r1, r2⟩ => by
    refine ⟨b, us', cs, h1, h2, e1, e2, ?_, r2.conv (hc.imp id fun h => ?_)⟩
    · rcases hc with hc | hc
      · exact r1.frame hc (fun _ _ => rfl)
      · simp only [psNoRo, Bool.and_eq_true] at hc; exact r1.noRo hc.1
    · simp only [psNoRo, Bool.and_eq_true] at h; exact h.2
  | .row t m :: ps, x, us, h, hc, ⟨b, us', cs, h1, h2, e1, e2, e3, r1, r2⟩ => by
    refine ⟨b, us', cs, h1, h2, e1, e2, e3, r1.conv (hc.imp id fun h => ?_), r2.conv (hc.imp id fun h => ?_)⟩
    · simp only [psNoRo, Bool.and_eq_true] at h; exact h.1
    · simp only [psNoRo, Bool.and_eq_true] at h; exact h.2
  | .ro _ :: ps, x, us, h, hc, ⟨v, vs', e, r⟩ => ⟨v, vs', e, OutsOk.conv (ps := ps) (hc.imp id fun h => by simpa [psNoRo] using h) r⟩
  | .mv _ _ :: ps, x, us, h, hc, ⟨v, vs', e, r⟩ => ⟨v, vs', e, OutsOk.conv (ps := ps) (hc.imp id fun h => by simpa [psNoRo] using h) r⟩
  | .fn _ _ :: ps, x, us, h, hc, ⟨v, vs', e, r⟩ => ⟨v, vs', e, OutsOk.conv (ps := ps) (hc.imp id fun h => by simpa [psNoRo] using h) r⟩
  | .nil :: ps, x, us, h, hc, ⟨v, vs', e, r⟩ => ⟨v, vs', e, OutsOk.conv (ps := ps) (hc.imp id fun h => by simpa [psNoRo] using h) r⟩
  | .lk _ :: ps, x, us, h, hc, ⟨v, vs', e, r⟩ => ⟨v, vs', e, OutsOk.conv (ps := ps) (hc.imp id fun h => by simpa [psNoRo] using h) r⟩
theorem pack_inj {t : Ty} {cs cs' : List Value} {v : Value} (h : pack t cs v) (h' : pack t cs' v) : cs = cs' := by
  unfold pack at h h'
  split at h
  · rename_i e
    rw [if_pos e] at h'
    rw [h] at h'
    simpa using h'
  · rename_i e
    rw [if_neg e] at h'
    rw [h, h']
theorem nodup_noDup : ∀ {l : List Nat}, l.Nodup → noDup l = true
  | [], _ => rfl
  | a :: l, h => by
    obtain ⟨h1, h2⟩ := List.nodup_cons.1 h
    simp only [noDup, nodup_noDup h2, Bool.and_true, Bool.not_eq_true']
    cases hc : l.contains a with
    | true => exact absurd (List.contains_iff_mem.1 hc) h1
    | false => rfl
theorem ioFrag_append (R : Real) : ∀ (l m : List Nat), ioFrag R (l ++ m) = ioFrag R l ++ ioFrag R m
  | [], _ => rfl
  | r :: l, m => by simp [ioFrag, ioFrag_append R l m]
def OutsIo (w : World) (Im : Nat → Prop) : (ps : List PK) → OutT ps → List Value → Frag → Prop
  | [], _, _, h => h = []
  | .io e t m :: ps, o, vs, h => ∃ b vs' cs h1 h2, vs = .pointer (some ⟨b, 0, none⟩) :: vs' ∧ h = (b, .cells cs.toArray e) :: (h1 ++ h2) ∧ Rep w Im t m o.1 cs h1 ∧ OutsIo w Im ps o.2 vs' h2
  | .row _ _ :: ps, o, vs, h => ∃ v vs', vs = v :: vs' ∧ OutsIo w Im ps o.2 vs' h
  | .ro _ :: ps, o, vs, h => ∃ v vs', vs = v :: vs' ∧ OutsIo w Im ps o vs' h
  | .mv _ _ :: ps, o, vs, h => ∃ v vs', vs = v :: vs' ∧ OutsIo w Im ps o vs' h
  | .fn _ _ :: ps, o, vs, h => ∃ v vs', vs = v :: vs' ∧ OutsIo w Im ps o vs' h
  | .nil :: ps, o, vs, h => ∃ v vs', vs = v :: vs' ∧ OutsIo w Im ps o vs' h
  | .lk _ :: ps, o, vs, h => ∃ v vs', vs = v :: vs' ∧ OutsIo w Im ps o vs' h
def OutsRw (w : World) (Im : Nat → Prop) : (ps : List PK) → OutT ps → List Value → Frag → Prop
  | [], _, _, h => h = []
  | .row t m :: ps, o, vs, h => ∃ v vs' cs h1 h2, vs = v :: vs' ∧ h = h1 ++ h2 ∧ pack t cs v ∧ BackOk w Im t m o.1 cs h1 ∧ OutsRw w Im ps o.2 vs' h2
  | .io _ _ _ :: ps, o, vs, h => ∃ v vs', vs = v :: vs' ∧ OutsRw w Im ps o.2 vs' h
  | .ro _ :: ps, o, vs, h => ∃ v vs', vs = v :: vs' ∧ OutsRw w Im ps o vs' h
  | .mv _ _ :: ps, o, vs, h => ∃ v vs', vs = v :: vs' ∧ OutsRw w Im ps o vs' h
  | .fn _ _ :: ps, o, vs, h => ∃ v vs', vs = v :: vs' ∧ OutsRw w Im ps o vs' h
  | .nil :: ps, o, vs, h => ∃ v vs', vs = v :: vs' ∧ OutsRw w Im ps o vs' h
  | .lk _ :: ps, o, vs, h => ∃ v vs', vs = v :: vs' ∧ OutsRw w Im ps o vs' h
theorem outs_split {w : World} {Im : Nat → Prop} : ∀ {ps : List PK} {o : OutT ps} {vs : List Value} {h : Frag}, OutsOk w Im ps o vs h → ∃ hi hr, List.Perm h (hi ++ hr) ∧ OutsIo w Im ps o vs hi ∧ OutsRw w Im ps o vs hr
  | [], _, _, h, e => ⟨[], [], by rw [show h = [] from e]; exact List.Perm.refl _, rfl, rfl⟩
  | .io e t m :: ps, o, vs, h, ⟨b, vs', cs, h1, h2, e1, e2, r1, r2⟩ => by
    obtain ⟨hi, hr, q1, q2, q3⟩ := outs_split r2
    refine ⟨(b, .cells cs.toArray e) :: (h1 ++ hi), hr, ?_, ⟨b, vs', cs, h1, hi, e1, rfl, r1, q2⟩, ⟨_, vs', e1, q3⟩⟩
    rw [e2]
    simp only [List.cons_append, List.append_assoc]
    exact List.Perm.cons _ (List.Perm.append_left _ q1)
  | .row t m :: ps, o, vs, h, ⟨v, vs', cs, h1, h2, e1, e2, e3, r1, r2⟩ => by
    obtain ⟨hi, hr, q1, q2, q3⟩ := outs_split r2
    refine ⟨hi, h1 ++ hr, ?_, ⟨v, vs', e1, q2⟩, ⟨v, vs', cs, h1, hr, e1, rfl, e3, r1, q3⟩⟩
    rw [e2]
    refine (List.Perm.append_left h1 q1).trans ?_
    rw [← List.append_assoc, ← List.append_assoc]
    exact List.Perm.append_right _ List.perm_append_comm
  | .ro _ :: ps, o, vs, h, ⟨v, vs', e, r⟩ => by
    obtain ⟨hi, hr, q1, q2, q3⟩ := outs_split r
    exact ⟨hi, hr, q1, ⟨v, vs', e, q2⟩, ⟨v, vs', e, q3⟩⟩
  | .mv _ _ :: ps, o, vs, h, ⟨v, vs', e, r⟩ => by
    obtain ⟨hi, hr, q1, q2, q3⟩ := outs_split r
    exact ⟨hi, hr, q1, ⟨v, vs', e, q2⟩, ⟨v, vs', e, q3⟩⟩
  | .fn _ _ :: ps, o, vs, h, ⟨v, vs', e, r⟩ => by
    obtain ⟨hi, hr, q1, q2, q3⟩ := outs_split r
    exact ⟨hi, hr, q1, ⟨v, vs', e, q2⟩, ⟨v, vs', e, q3⟩⟩
  | .nil :: ps, o, vs, h, ⟨v, vs', e, r⟩ => by
    obtain ⟨hi, hr, q1, q2, q3⟩ := outs_split r
    exact ⟨hi, hr, q1, ⟨v, vs', e, q2⟩, ⟨v, vs', e, q3⟩⟩
  | .lk _ :: ps, o, vs, h, ⟨v, vs', e, r⟩ => by
    obtain ⟨hi, hr, q1, q2, q3⟩ := outs_split r
    exact ⟨hi, hr, q1, ⟨v, vs', e, q2⟩, ⟨v, vs', e, q3⟩⟩
theorem leaf_ty : ∀ {t : Ty} {m : Md} {cs : List Value} {et : Ty} {c : Value}, leafOf t m cs = some (et, c) → leafTy t m = some et
  | .pair a b, m, cs, et, c, h => by
    simp only [leafOf] at h
    simp only [leafTy]
    split at h
    · rename_i h1; rw [if_pos h1]; exact leaf_ty h
    · rename_i h1; rw [if_neg h1]; exact leaf_ty h
  | .slc t, .own _, [c'], et, c, h => by cases h; rfl
  | .mp k v, .own _, [c'], et, c, h => by cases h; rfl
  | .slc t, .own _, [], _, _, h => by cases h
  | .slc t, .own _, _ :: _ :: _, _, _, h => by cases h
  | .mp k v, .own _, [], _, _, h => by cases h
  | .mp k v, .own _, _ :: _ :: _, _, _, h => by cases h
  | .slc _, .ro, _, _, _, h => by simp [leafOf] at h
  | .slc _, .dead, _, _, _, h => by simp [leafOf] at h
  | .slc _, .rz, _, _, _, h => by simp [leafOf] at h
  | .slc _, .pair _ _, _, _, _, h => by simp [leafOf] at h
  | .mp _ _, .ro, _, _, _, h => by simp [leafOf] at h
  | .mp _ _, .dead, _, _, _, h => by simp [leafOf] at h
  | .mp _ _, .rz, _, _, _, h => by simp [leafOf] at h
  | .mp _ _, .pair _ _, _, _, _, h => by simp [leafOf] at h
  | .int _, _, _, _, _, h => by simp [leafOf] at h
  | .bool, _, _, _, _, h => by simp [leafOf] at h
  | .str, _, _, _, _, h => by simp [leafOf] at h
  | .raw, _, _, _, _, h => by simp [leafOf] at h
  | .unit, _, _, _, _, h => by simp [leafOf] at h
theorem lend_leaf : ∀ {t : Ty} {m : Md} {cs : List Value} {ids : List (Nat × Path)} {et : Ty} {c : Value}, LendOk w R t m cs ids → cntM t m = 1 → ids.length = cntM t m → leafOf t m cs = some (et, c) → ∃ r q, ids = [(r, q)] ∧ lev q = 0 ∧ RefOK w R r q c
  | .pair a b, m, cs, ids, et, c, ⟨c1, c2, i1, i2, e1, e2, e3, e4, h1, h2⟩, hc, hn, hl => by
    subst e1; subst e3
    simp only [cntM] at hc hn
    rw [List.length_append, e4] at hn
    simp only [leafOf] at hl
    split at hl
    · rename_i h1a
      rw [← e2, List.take_left'] at hl
      · obtain ⟨r, q, f1, f2⟩ := lend_leaf h1 h1a e4 hl
        have : i2 = [] := List.length_eq_zero_iff.1 (by omega)
        subst this
        exact ⟨r, q, by rw [f1]; rfl, f2⟩
      · rfl
    · rename_i h1a
      rw [← e2, List.drop_left'] at hl
      · obtain ⟨r, q, f1, f2⟩ := lend_leaf h2 (by omega) (by omega) hl
        have : i1 = [] := List.length_eq_zero_iff.1 (by omega)
        subst this
        exact ⟨r, q, by rw [f1]; rfl, f2⟩
      · rfl
  | .slc t, .own _, cs, ids, et, c, ⟨r, q, c', e1, e2, e3, e4⟩, _, _, hl => by
    subst e2
    cases hl
    exact ⟨r, q, e1, e3, e4⟩
  | .mp k v, .own _, cs, ids, et, c, ⟨r, q, c', e1, e2, e3, e4⟩, _, _, hl => by
    subst e2
    cases hl
    exact ⟨r, q, e1, e3, e4⟩
  | .slc _, .ro, _, _, _, _, _, hc, _, _ => by simp [cntM] at hc
  | .slc _, .dead, _, _, _, _, _, hc, _, _ => by simp [cntM] at hc
  | .slc _, .rz, _, _, _, _, _, hc, _, _ => by simp [cntM] at hc
  | .slc _, .pair _ _, _, _, _, _, _, hc, _, _ => by simp [cntM] at hc
  | .mp _ _, .ro, _, _, _, _, _, hc, _, _ => by simp [cntM] at hc
  | .mp _ _, .dead, _, _, _, _, _, hc, _, _ => by simp [cntM] at hc
  | .mp _ _, .rz, _, _, _, _, _, hc, _, _ => by simp [cntM] at hc
  | .mp _ _, .pair _ _, _, _, _, _, _, hc, _, _ => by simp [cntM] at hc
  | .int _, _, _, _, _, _, _, hc, _, _ => by simp [cntM] at hc
  | .bool, _, _, _, _, _, _, hc, _, _ => by simp [cntM] at hc
  | .str, _, _, _, _, _, _, hc, _, _ => by simp [cntM] at hc
  | .raw, _, _, _, _, _, _, hc, _, _ => by simp [cntM] at hc
  | .unit, _, _, _, _, _, _, hc, _, _ => by simp [cntM] at hc
theorem Inv.restore (h : Inv G st vs w Im R (hand ++ hand')) {r : Nat} {q : Path} {b : Bx} {c : Value} (hb : bget st.boxes r = some b) (hv : RefOK w R r q c) (h0 : lev q = 0) {m : Md} (hm : mget b.m q = .dead) (ht : isHd (ctype b.t q) = true) {y : den (ctype b.t q)} (hrep : Rep w Im (ctype b.t q) (.own m) y [c] hand') :
    ∃ R', Inv G { slots := st.slots.map (kill1 r), boxes := bset r { b with m := mput b.m q (.own m), x := cput b.t b.x q y } st.boxes } vs w Im R' hand ∧ (∀ j, j ≠ r → R' j = R j) ∧ (∀ r2 q2 c2, lev q2 = 0 → RefOK w R r2 q2 c2 → RefOK w R' r2 q2 c2) := by
  obtain ⟨rb, hr⟩ := h.real hb
  obtain ⟨hval, hslc, ad, hn⟩ := hv b rb hr
  obtain ⟨cs', ad', A, h1, B, n1, n2, n3, n4, _⟩ := focus q (ad := locOf b rb) hval (h.rep r b rb hr) (fun p hp => h.heapOK hr p (fragOf_sub p hp)) (h.nodup' hr)
  rw [hn] at n1
  simp only [Option.some.injEq, Prod.mk.injEq] at n1
  obtain ⟨rfl, rfl⟩ := n1
  obtain ⟨pre, post, p1, p2, p3, p4, p5⟩ := n4 h0
  have hdead : h1 = [] := by
    rw [hm] at n3
    revert n3
    generalize cget b.t b.x q = X
    clear p3 p4 p5 hrep y
    revert X ht
    generalize ctype b.t q = TT
    intro ht X n3
    cases TT <;> simp only [isHd, Bool.false_eq_true] at ht
    · exact n3.2
    · exact n3.2
  subst hdead
  have hnew := p3 w Im (Grow.refl w Im) (.own m) y [c] hand' hrep
  have hcs : pre ++ [c] ++ post = rb.cs := p1.symm
  rw [hcs] at hnew
  have n2 : rb.h = A ++ B := by rw [n2]; simp
  let bN : Bx := { b with m := mput b.m q (.own m), x := cput b.t b.x q y }
  let rbN : RB := { rb with h := A ++ hand' ++ B }
  have refs : ∀ (q2 : Path) (v2 : Value), lev q2 = 0 → RefOK w R r q2 v2 → RefOK w (fun j => if j = r then some (bN, rbN) else R j) r q2 v2 := by
    intro q2 v2 h02 hh b2 rb2 hb2
    simp only [if_true] at hb2; cases hb2
    obtain ⟨hv', ht', ad2, hn2⟩ := hh b rb hr
    exact ⟨valid0 q2 h02 hv', ht', ad2, hn2⟩
  have hsv := h.sv (Grow.refl w Im) (R' := fun j => if j = r then some (bN, rbN) else R j) (p := fun _ s q => decide (s = r) && !decide (lev q = 0)) (fun j => by
    by_cases ej : j = r
    · subst ej
      refine .inr ⟨fun q' v' hp hh => refs q' v' (by simpa using hp) hh, fun q' lo n v' hp ⟨u, hh, hsub⟩ => ⟨u, refs q' u (by simpa using hp) hh, fun b2 rb2 hb2 => ?_⟩, fun q' v' hp hh b2 rb2 hb2 => ?_⟩
      · simp only [if_true] at hb2; cases hb2
        exact hsub b rb hr
      · simp only [if_true] at hb2; cases hb2
        have h0' : lev q' = 0 := by simpa using hp
        obtain ⟨hv', cs3, b3, o3, hn3, e3⟩ := hh b rb hr
        exact ⟨valid0 q' h0' hv', cs3, b3, o3, hn3, e3⟩
    · exact .inl ⟨by simp [ej], fun _ _ _ _ _ => rfl⟩)
  have hfrag : ∀ p, p ∈ fragOf bN rbN ↔ p ∈ fragOf b rb ∨ p ∈ hand' := by
    intro p
    unfold fragOf
    show p ∈ (match b.mem with | some e => (blkOf b rb, Obj.cells rb.cs.toArray e) :: (A ++ hand' ++ B) | none => A ++ hand' ++ B) ↔ _
    cases hmm : b.mem with
    | none =>
      simp only [n2, List.mem_append]
      constructor
      · rintro ((h | h) | h)
        · exact .inl (.inl h)
        · exact .inr h
        · exact .inl (.inr h)
      · rintro ((h | h) | h)
        · exact .inl (.inl h)
        · exact .inr h
        · exact .inl (.inr h)
    | some ty =>
      simp only [n2, List.mem_cons, List.mem_append]
      constructor
      · rintro (h | (h | h) | h)
        · exact .inl (.inl h)
        · exact .inl (.inr (.inl h))
        · exact .inr h
        · exact .inl (.inr (.inr h))
      · rintro ((h | h | h) | h)
        · exact .inl h
        · exact .inr (.inl (.inl h))
        · exact .inr (.inr h)
        · exact .inr (.inl (.inr h))
  have hkeys : ∀ k, k ∈ keys (fragOf bN rbN) ↔ k ∈ keys (fragOf b rb) ∨ k ∈ keys hand' := by
    intro k
    simp only [keys_mem]
    constructor
    · rintro ⟨p, hp, e⟩
      rcases (hfrag p).1 hp with hp | hp
      · exact .inl ⟨p, hp, e⟩
      · exact .inr ⟨p, hp, e⟩
    · rintro (⟨p, hp, e⟩ | ⟨p, hp, e⟩)
      · exact ⟨p, (hfrag p).2 (.inl hp), e⟩
      · exact ⟨p, (hfrag p).2 (.inr hp), e⟩
  have ndh : (keys hand').Nodup := by have := h.sep.nod 0; rw [own_zero, keys_append] at this; exact (List.nodup_append.1 this).2.1
  have dj : ∀ k ∈ keys hand', k ∉ keys (fragOf b rb) := fun k hk hk2 => h.sep.sep 0 (r + 1) (by simp) k (by rw [own_zero, keys_append]; exact List.mem_append_right _ hk) (by rw [own_at hr]; exact hk2)
  have hnod : (keys (fragOf bN rbN)).Nodup := by
    have hnf := h.nodup hr
    have djl : ∀ k ∈ keys hand', k ∉ keys (A ++ B) := fun k hk hk2 => dj k hk (by
      obtain ⟨p, hp, e⟩ := keys_mem.1 hk2
      exact keys_mem.2 ⟨p, fragOf_sub p (by rw [n2]; exact hp), e⟩)
    have core : (keys (A ++ B)).Nodup → (keys (A ++ hand' ++ B)).Nodup := by
      intro hn
      simp only [keys_append] at hn djl ⊢
      obtain ⟨m1, m2, m3⟩ := List.nodup_append.1 hn
      refine List.nodup_append.2 ⟨List.nodup_append.2 ⟨m1, ndh, fun x hx y hy e => djl y hy (List.mem_append_left _ (e ▸ hx))⟩, m2, fun x hx y hy e => ?_⟩
      rcases List.mem_append.1 hx with hx | hx
      · exact m3 x hx y hy e
      · exact djl x hx (List.mem_append_right _ (e ▸ hy))
    show (keys (fragOf bN rbN)).Nodup
    unfold fragOf at hnf ⊢
    show (keys (match b.mem with | some e => (blkOf b rb, Obj.cells rb.cs.toArray e) :: (A ++ hand' ++ B) | none => A ++ hand' ++ B)).Nodup
    cases hmm : b.mem with
    | none =>
      rw [hmm] at hnf
      simp only [n2] at hnf
      exact core hnf
    | some ty =>
      rw [hmm] at hnf
      simp only [n2, keys_cons] at hnf ⊢
      obtain ⟨m1, m2⟩ := List.nodup_cons.1 hnf
      refine List.nodup_cons.2 ⟨fun hk => ?_, core m2⟩
      simp only [keys_append, List.mem_append] at hk m1
      rcases hk with (hk | hk) | hk
      · exact m1 (.inl hk)
      · refine dj _ hk ?_
        unfold fragOf
        rw [hmm]
        simp [keys]
      · exact m1 (.inr hk)
  have own' : ∀ j, ∀ k ∈ keys (own (fun j => if j = r then some (bN, rbN) else R j) hand j), (j = 0 ∧ k ∈ keys hand) ∨ (j = r + 1 ∧ k ∈ keys (fragOf b rb)) ∨ (j = r + 1 ∧ k ∈ keys hand') ∨ (j ≠ 0 ∧ j ≠ r + 1 ∧ k ∈ keys (own R [] j)) := by
    intro j k hk
    cases j with
    | zero => exact .inl ⟨rfl, hk⟩
    | succ j =>
      simp only [own] at hk
      by_cases ej : j = r
      · rw [if_pos ej] at hk
        rcases (hkeys k).1 hk with hk | hk
        · exact .inr (.inl ⟨by rw [ej], hk⟩)
        · exact .inr (.inr (.inl ⟨by rw [ej], hk⟩))
      · rw [if_neg ej] at hk; exact .inr (.inr (.inr ⟨by simp, by simpa using ej, hk⟩))
  have o0 : ∀ k, k ∈ keys hand ∨ k ∈ keys hand' → k ∈ keys (own R (hand ++ hand') 0) := fun k hk => by rw [own_zero, keys_append]; exact List.mem_append.2 hk
  have or1 : ∀ k, k ∈ keys (fragOf b rb) → k ∈ keys (own R (hand ++ hand') (r + 1)) := fun k hk => by rw [own_at hr]; exact hk
  have on : ∀ j k, j ≠ 0 → k ∈ keys (own R [] j) → k ∈ keys (own R (hand ++ hand') j) := fun j k hj hk => by
    cases j with
    | zero => exact absurd rfl hj
    | succ j => exact hk
  refine ⟨fun j => if j = r then some (bN, rbN) else R j, ⟨fun j => ?_, fun j b2 r2 hb2 => ?_, h.sep.redis (fun j => ?_) (fun j l hjl k k1 k2 => ?_) (fun j p hp => ?_), fun n => ?_, ?_, h.keep, fun j b2 r2 hb2 => ?_⟩, fun j hj => by simp [hj], fun r2 q2 c2 h02 hh => ?_⟩
  · show bget (bset r bN st.boxes) j = _
    rw [bget_bset]
    by_cases ej : j = r
    · simp [ej]
    · simp only [if_neg ej]; exact h.box j
  · have hb2 : (if j = r then some (bN, rbN) else R j) = some (b2, r2) := hb2
    split at hb2
    · cases hb2; exact hnew
    · exact h.rep j b2 r2 hb2
  · cases j with
    | zero =>
      have := h.sep.nod 0
      rw [own_zero, keys_append] at this
      exact (List.nodup_append.1 this).1
    | succ j =>
      simp only [own]
      by_cases ej : j = r
      · rw [if_pos ej]; exact hnod
      · rw [if_neg ej]; exact h.sep.nod (j + 1)
  · have key : ∀ k ∈ keys hand, k ∉ keys hand' := fun k a b => by
      have := h.sep.nod 0
      rw [own_zero, keys_append] at this
      exact (List.nodup_append.1 this).2.2 k a k b rfl
    rcases own' j k k1 with ⟨e1, a1⟩ | ⟨e1, a1⟩ | ⟨e1, a1⟩ | ⟨e1, e1', a1⟩ <;> rcases own' l k k2 with ⟨e2, a2⟩ | ⟨e2, a2⟩ | ⟨e2, a2⟩ | ⟨e2, e2', a2⟩
    · exact hjl (e1.trans e2.symm)
    · exact h.sep.sep 0 (r + 1) (by simp) k (o0 k (.inl a1)) (or1 k a2)
    · exact key k a1 a2
    · exact h.sep.sep 0 l (Ne.symm e2) k (o0 k (.inl a1)) (on l k e2 a2)
    · exact h.sep.sep 0 (r + 1) (by simp) k (o0 k (.inl a2)) (or1 k a1)
    · exact hjl (e1.trans e2.symm)
    · exact hjl (e1.trans e2.symm)
    · exact h.sep.sep (r + 1) l (Ne.symm e2') k (or1 k a1) (on l k e2 a2)
    · exact key k a2 a1
    · exact hjl (e1.trans e2.symm)
    · exact hjl (e1.trans e2.symm)
    · exact h.sep.sep 0 l (Ne.symm e2) k (o0 k (.inr a1)) (on l k e2 a2)
    · exact h.sep.sep 0 j (Ne.symm e1) k (o0 k (.inl a2)) (on j k e1 a1)
    · exact h.sep.sep (r + 1) j (Ne.symm e1') k (or1 k a2) (on j k e1 a1)
    · exact h.sep.sep 0 j (Ne.symm e1) k (o0 k (.inr a2)) (on j k e1 a1)
    · exact h.sep.sep j l hjl k (on j k e1 a1) (on l k e2 a2)
  · cases j with
    | zero => exact ⟨0, List.mem_append_left _ hp⟩
    | succ j =>
      simp only [own] at hp
      by_cases ej : j = r
      · rw [if_pos ej] at hp
        rcases (hfrag p).1 hp with hp | hp
        · exact ⟨r + 1, by rw [own_at hr]; exact hp⟩
        · exact ⟨0, List.mem_append_right _ hp⟩
      · rw [if_neg ej] at hp; exact ⟨j + 1, hp⟩
  · show SVV w Im _ (sget (st.slots.map (forget fun _ s q => decide (s = r) && !decide (lev q = 0))) n) _
    rw [sget_map]; exact hsv.2 (h.slots n)
  · show (st.slots.map _).length = _
    rw [List.length_map]; exact h.len
  · have hb2 : (if j = r then some (bN, rbN) else R j) = some (b2, r2) := hb2
    split at hb2
    · cases hb2; exact (h.row r b rb hr).same rfl rfl rfl rfl
    · exact h.row j b2 r2 hb2
  · by_cases e2 : r2 = r
    · subst e2; exact refs q2 c2 h02 hh
    · intro b3 rb3 hb3
      simp only [if_neg e2] at hb3
      exact hh b3 rb3 hb3
theorem backR_some : ∀ {t : Ty} {m : Md} {x : RowT t m} {ids : List (Nat × Path)} {cs : List Value} {h' : Frag} {st : St} {R : Real} {hand : Frag} {K : St → Option T}, backR t m x ids st K = some r0 → Inv G st vs w Im R (hand ++ h') → LendOk w R t m cs ids → ids.length = cntM t m → BackOk w Im t m x cs h' →
    ∃ st' R', K st' = some r0 ∧ Inv G st' vs w Im R' hand ∧ (∀ r2 q2 c2, lev q2 = 0 → RefOK w R r2 q2 c2 → RefOK w R' r2 q2 c2) := by
  intro t
  induction t with
  | pair a b iha ihb =>
    intro m x ids cs h' st R hand K hk h hl hn hb
    obtain ⟨c1, c2, i1, i2, e1, e2, e3, e4, l1, l2⟩ := hl
    obtain ⟨d1, d2, h1, h2, f1, f2, f3, b1, b2⟩ := hb
    have hc : c1 = d1 ∧ c2 = d2 := List.append_inj (e1.symm.trans f1) (by rw [e2, f2])
    obtain ⟨rfl, rfl⟩ := hc
    subst e3; subst f3
    have hn2 : i2.length = cntM b m.snd := by
      rw [List.length_append, e4] at hn
      simp only [cntM] at hn
      omega
    have et : (i1 ++ i2).take (cntM a m.fst) = i1 := by rw [← e4]; simp
    have ed : (i1 ++ i2).drop (cntM a m.fst) = i2 := by rw [← e4]; simp
    simp only [backR] at hk
    rw [et, ed] at hk
    obtain ⟨st1, R1, hk, hi1, q1⟩ := iha hk (hand := hand ++ h2) (h.perm (by
      rw [List.append_assoc]; exact List.Perm.append_left _ List.perm_append_comm)) l1 e4 b1
    obtain ⟨st2, R2, hk, hi2, q2⟩ := ihb hk hi1 (l2.mono fun r q c _ => q1 r q c) hn2 b2
    exact ⟨st2, R2, hk, hi2, fun r2 q' c' h0 hh => q2 _ _ _ h0 (q1 _ _ _ h0 hh)⟩
  | slc t ih =>
    intro m x ids cs h' st R hand K hk h hl hn hb
    cases m with
    | own m =>
      obtain ⟨r, q, c, e1, e2, h0, hr⟩ := hl
      subst e1; subst e2
      simp only [backR] at hk
      split at hk
      · rename_i b hbb
        split at hk
        · rename_i ht
          split at hk
          · rename_i hm
            have hb : Rep w Im (.slc t) (.own m) x [c] h' := hb
            obtain ⟨R', hi, _, q2⟩ := h.restore hbb hr h0 hm (by rw [ht]; rfl) (Rep.cast ht.symm hb)
            exact ⟨_, R', hk, hi, q2⟩
          · cases hk
        · cases hk
      · cases hk
    | _ =>
      have hb : h' = [] := hb
      subst hb
      rw [List.append_nil] at h
      exact ⟨st, R, hk, h, fun _ _ _ _ hh => hh⟩
  | mp kt vt ihk ihv =>
    intro m x ids cs h' st R hand K hk h hl hn hb
    cases m with
    | own m =>
      obtain ⟨r, q, c, e1, e2, h0, hr⟩ := hl
      subst e1; subst e2
      simp only [backR] at hk
      split at hk
      · rename_i b hbb
        split at hk
        · rename_i ht
          split at hk
          · rename_i hm
            have hb : Rep w Im (.mp kt vt) (.own m) x [c] h' := hb
            obtain ⟨R', hi, _, q2⟩ := h.restore hbb hr h0 hm (by rw [ht]; rfl) (Rep.cast ht.symm hb)
            exact ⟨_, R', hk, hi, q2⟩
          · cases hk
        · cases hk
      · cases hk
    | _ =>
      have hb : h' = [] := hb
      subst hb
      rw [List.append_nil] at h
      exact ⟨st, R, hk, h, fun _ _ _ _ hh => hh⟩
  | _ =>
    intro m x ids cs h' st R hand K hk h hl hn hb
    have hb : h' = [] := by cases m <;> exact hb
    subst hb
    rw [List.append_nil] at h
    exact ⟨st, R, (by cases m <;> exact hk), h, fun _ _ _ _ hh => hh⟩
theorem backS_some : ∀ {ps : List PK} {o : OutT ps} {us : List Value} {ids : List (Nat × Path)} {h' : Frag} {st : St} {R : Real} {hand : Frag} {K : St → Option T}, backS ps o ids st K = some r0 → Inv G st vs w Im R (hand ++ h') → RwOk w R ps us ids → OutsRw w Im ps o us h' →
    ∃ st' R', K st' = some r0 ∧ Inv G st' vs w Im R' hand ∧ (∀ r2 q2 c2, lev q2 = 0 → RefOK w R r2 q2 c2 → RefOK w R' r2 q2 c2) := by
  intro ps
  induction ps with
  | nil =>
    intro o us ids h' st R hand K hk h hr ho
    have ho : h' = [] := ho
    subst ho
    rw [List.append_nil] at h
    exact ⟨st, R, hk, h, fun _ _ _ _ hh => hh⟩
  | cons pk ps ih =>
    intro o us ids h' st R hand K hk h hr ho
    cases pk with
    | row t m =>
      obtain ⟨v, vs', cs, i1, i2, e1, e2, e3, e4, hl, hr⟩ := hr
      obtain ⟨v2, vs2, cs2, h1, h2, f1, f2, f3, hb, ho⟩ := ho
      rw [e1] at f1; cases f1
      have := pack_inj e4 f3
      subst this
      subst e2; subst f2
      have et : (i1 ++ i2).take (cntM t m) = i1 := by rw [← e3]; simp
      have ed : (i1 ++ i2).drop (cntM t m) = i2 := by rw [← e3]; simp
      simp only [backS] at hk
      rw [et, ed] at hk
      obtain ⟨st1, R1, hk, hi1, q1⟩ := backR_some hk (hand := hand ++ h2) (h.perm (by
        rw [List.append_assoc]; exact List.Perm.append_left _ List.perm_append_comm)) hl e3 hb
      obtain ⟨st2, R2, hk, hi2, q2⟩ := ih hk hi1 (hr.mono fun r q c _ => q1 r q c) ho
      exact ⟨st2, R2, hk, hi2, fun r2 q' c' h0 hh => q2 _ _ _ h0 (q1 _ _ _ h0 hh)⟩
    | _ =>
      obtain ⟨v, vs', e1, hr⟩ := hr
      obtain ⟨v2, vs2, e2, ho⟩ := ho
      rw [e1] at e2; cases e2
      exact ih (by simpa only [backS] using hk) h hr ho
theorem outs_real {Im2 : Nat → Prop} : ∀ {ps : List PK} {x : OutT ps} {vs : List Value} {io : List Nat} {h : Frag}, IoOk R ps vs io → OutsIo w Im2 ps x vs h → noDup io = true →
    ∃ R2 : Real, (∀ j, j ∉ io → R2 j = R j) ∧ (∀ bs : List (Nat × Bx), (∀ j, bget bs j = (R j).map (·.1)) → ∀ j, bget (outsB ps x io bs) j = (R2 j).map (·.1)) ∧
      (∀ j ∈ io, ∃ b2 rb2 b rb, R2 j = some (b2, rb2) ∧ R j = some (b, rb) ∧ blkOf b2 rb2 = blkOf b rb ∧ b2.mem = b.mem ∧ b2.t = b.t ∧ Rep w Im2 b2.t b2.m b2.x rb2.cs rb2.h ∧ b2.row = none) ∧ List.Perm h (ioFrag R2 io) := by
  intro ps
  induction ps with
  | nil =>
    intro x vs io h h1 h2 _
    have h1 : io = [] := h1
    have h2 : h = [] := h2
    subst h1; subst h2
    exact ⟨R, fun _ _ => rfl, fun bs hb => hb, fun j hj => by simp at hj, List.Perm.refl _⟩
  | cons pk ps ih =>
    intro x vs io h h1 h2 hd
    cases pk with
    | ro t =>
      obtain ⟨v, vs', e, h1⟩ := h1
      obtain ⟨v2, vs2, e2, h2⟩ := h2
      rw [e] at e2; cases e2
      exact ih h1 h2 hd
    | mv t m =>
      obtain ⟨v, vs', e, h1⟩ := h1
      obtain ⟨v2, vs2, e2, h2⟩ := h2
      rw [e] at e2; cases e2
      exact ih h1 h2 hd
    | nil =>
      obtain ⟨v, vs', e, h1⟩ := h1
      obtain ⟨v2, vs2, e2, h2⟩ := h2
      rw [e] at e2; cases e2
      exact ih h1 h2 hd
    | lk t =>
      obtain ⟨v, vs', e, h1⟩ := h1
      obtain ⟨v2, vs2, e2, h2⟩ := h2
      rw [e] at e2; cases e2
      exact ih h1 h2 hd
    | fn f ts =>
      obtain ⟨v, vs', e, h1⟩ := h1
      obtain ⟨v2, vs2, e2, h2⟩ := h2
      rw [e] at e2; cases e2
      exact ih h1 h2 hd
    | io e t m =>
      obtain ⟨r, io', vs', b, rb, e1, e2, e3, e4, e5, h1⟩ := h1
      obtain ⟨b2, vs2, cs, g1, g2, f1, f2, f3, h2⟩ := h2
      rw [e2] at f1; cases f1
      subst e1; subst f2
      simp only [noDup, Bool.and_eq_true, Bool.not_eq_true'] at hd
      have hr : r ∉ io' := by
        intro hm
        have := List.contains_iff_mem.2 hm
        rw [hd.1] at this; cases this
      obtain ⟨R2, q1, q2, q3, q4⟩ := ih h1 h2 hd.2
      refine ⟨fun j => if j = r then some ({ mem := some e, t := t, m := m, x := x.1, pin := b.pin }, ⟨rb.blk, cs, g1⟩) else R2 j, fun j hj => ?_, fun bs hb j => ?_, fun j hj => ?_, ?_⟩
      · simp only [List.mem_cons, not_or] at hj
        simp only [if_neg hj.1]; exact q1 j hj.2
      · show bget (bset r _ (outsB ps x.2 io' bs)) j = _
        rw [bget_bset]
        by_cases hj : j = r
        · have hbr : bget bs r = some b := by rw [hb r, e3]; rfl
          simp [hj, hbr]
        · simp only [if_neg hj]; exact q2 bs hb j
      · by_cases hjr : j = r
        · subst hjr
          exact ⟨{ mem := some e, t := t, m := m, x := x.1, pin := b.pin }, ⟨rb.blk, cs, g1⟩, b, rb, by simp, e3, rfl, e4.symm, e5.symm, f3, rfl⟩
        · rcases List.mem_cons.1 hj with hj | hj
          · exact absurd hj hjr
          · obtain ⟨b2, rb2, b3, rb3, s1, s2⟩ := q3 j hj
            exact ⟨b2, rb2, b3, rb3, by simp [hjr, s1], s2⟩
      · have e6 : ∀ l : List Nat, r ∉ l → ioFrag (fun j => if j = r then some ({ mem := some e, t := t, m := m, x := x.1, pin := b.pin }, ⟨rb.blk, cs, g1⟩) else R2 j) l = ioFrag R2 l := by
          intro l
          induction l with
          | nil => intro _; rfl
          | cons a l ihl =>
            intro hl
            simp only [List.mem_cons, not_or] at hl
            simp only [ioFrag, ihl hl.2]
            congr 1
            simp only [own, if_neg (Ne.symm hl.1)]
        simp only [ioFrag]
        rw [e6 io' hr]
        have : own (fun j => if j = r then some ({ mem := some e, t := t, m := m, x := x.1, pin := b.pin }, (⟨rb.blk, cs, g1⟩ : RB)) else R2 j) [] (r + 1) = (blkOf b rb, .cells cs.toArray e) :: g1 := by
          simp only [own, if_true]; rfl
        rw [this]
        exact List.Perm.cons _ (List.Perm.append_left _ q4)
    | row t m =>
      obtain ⟨v, vs', e, h1⟩ := h1
      obtain ⟨v2, vs2, e2, h2⟩ := h2
      rw [e] at e2; cases e2
      exact ih h1 h2 hd
theorem mem_ioFrag {k : Nat} : ∀ {l : List Nat}, k ∈ keys (ioFrag R l) ↔ ∃ r ∈ l, k ∈ keys (own R [] (r + 1))
  | [] => by simp [ioFrag, keys]
  | r :: l => by
    simp only [ioFrag, keys_append, List.mem_append, mem_ioFrag (l := l), List.mem_cons]
    constructor
    · rintro (h | ⟨s, h1, h2⟩)
      · exact ⟨r, .inl rfl, h⟩
      · exact ⟨s, .inr h1, h2⟩
    · rintro ⟨s, h1 | h1, h2⟩
      · subst h1; exact .inl h2
      · exact .inr ⟨s, h1, h2⟩
theorem ioFrag_nodup (h : Inv G st vs w Im R hand) : ∀ {l : List Nat}, noDup l = true → (keys (ioFrag R l)).Nodup
  | [], _ => List.nodup_nil
  | r :: l, hd => by
    simp only [noDup, Bool.and_eq_true, Bool.not_eq_true'] at hd
    simp only [ioFrag, keys_append]
    refine List.nodup_append.2 ⟨h.sep.nod (r + 1), ioFrag_nodup h hd.2, fun x hx y hy e => ?_⟩
    subst e
    obtain ⟨s, h1, h2⟩ := mem_ioFrag.1 hy
    have hne : r ≠ s := by
      rintro rfl
      have := List.contains_iff_mem.2 h1
      rw [hd.1] at this; cases this
    exact h.sep.sep (r + 1) (s + 1) (by simpa using hne) x hx h2
theorem nodup_parts : ∀ {l : List Nat} {i j : Nat} {k : Nat}, (keys (ioFrag R l)).Nodup → i ∈ l → j ∈ l → i ≠ j → k ∈ keys (own R [] (i + 1)) → k ∉ keys (own R [] (j + 1))
  | r :: l, i, j, k, hn, hi, hj, hne, h1, h2 => by
    simp only [ioFrag, keys_append] at hn
    obtain ⟨n1, n2, n3⟩ := List.nodup_append.1 hn
    rcases List.mem_cons.1 hi with e1 | hi' <;> rcases List.mem_cons.1 hj with e2 | hj'
    · exact hne (e1.trans e2.symm)
    · exact n3 k (e1 ▸ h1) k (mem_ioFrag.2 ⟨j, hj', h2⟩) rfl
    · exact n3 k (e2 ▸ h2) k (mem_ioFrag.2 ⟨i, hi', h1⟩) rfl
    · exact nodup_parts n2 hi' hj' hne h1 h2
theorem part_nodup : ∀ {l : List Nat} {i : Nat}, (keys (ioFrag R l)).Nodup → i ∈ l → (keys (own R [] (i + 1))).Nodup
  | r :: l, i, hn, hi => by
    simp only [ioFrag, keys_append] at hn
    obtain ⟨n1, n2, n3⟩ := List.nodup_append.1 hn
    rcases List.mem_cons.1 hi with rfl | hi
    · exact n1
    · exact part_nodup n2 hi
theorem ioFrag_mem {p : Nat × Obj} : ∀ {l : List Nat} {i : Nat}, i ∈ l → p ∈ own R [] (i + 1) → p ∈ ioFrag R l
  | r :: l, i, hi, hp => by
    simp only [ioFrag, List.mem_append]
    rcases List.mem_cons.1 hi with rfl | hi
    · exact .inl hp
    · exact .inr (ioFrag_mem hi hp)
theorem nav_low : ∀ (q : Path), lev q = 0 → ∀ {w w' : World} {t : Ty} {cs : List Value} {ad : Option (Nat × Nat)}, nav w' t cs ad q = nav w t cs ad q
  | [], _, _, _, _, _, _ => rfl
  | .fst :: q, h, w, w', t, cs, ad => by
    show (match navStep w' t cs ad .fst with | some p => nav w' (tstep t .fst) p.1 p.2 q | none => none) = (match navStep w t cs ad .fst with | some p => nav w (tstep t .fst) p.1 p.2 q | none => none)
    have e : navStep w' t cs ad .fst = navStep w t cs ad .fst := by cases t <;> rfl
    rw [e]
    cases navStep w t cs ad .fst with
    | none => rfl
    | some p => exact nav_low q (by simpa [lev] using h)
  | .snd :: q, h, w, w', t, cs, ad => by
    show (match navStep w' t cs ad .snd with | some p => nav w' (tstep t .snd) p.1 p.2 q | none => none) = (match navStep w t cs ad .snd with | some p => nav w (tstep t .snd) p.1 p.2 q | none => none)
    have e : navStep w' t cs ad .snd = navStep w t cs ad .snd := by cases t <;> rfl
    rw [e]
    cases navStep w t cs ad .snd with
    | none => rfl
    | some p => exact nav_low q (by simpa [lev] using h)
  | .idx _ :: q, h, _, _, _, _, _ => by simp [lev] at h
theorem Inv.called (h : Inv G st vs w Im R hand) {io : List Nat} {ps : List PK} {us0 : List Value} (hio : IoOk R ps us0 io) (hdup : noDup io = true) {H : Frag} (hH : List.Perm H (hand ++ ioFrag R io)) {Imc ImN : Nat → Prop} (hImc : ∀ k, Im k → Imc k) (hdis : ∀ k ∈ keys H, ¬ Imc k)
    {x : OutT ps} {h1 h2 : Frag} (hheap : HeapOK w' (h1 ++ h2)) (hnod : (keys (h1 ++ h2)).Nodup) (hnew : ∀ k ∈ keys (h1 ++ h2), ¬ ImN k ∧ (w.heap.size ≤ k ∨ k ∈ keys H)) (hN : ∀ k, ImN k → k < w'.heap.size) (hkeep : Keep ⟨w, keys H, Imc, fun _ _ => .bool false⟩ w')
    (houts : OutsIo w' (fun k => Im k ∨ (ImN k ∧ (w.heap.size ≤ k ∨ k ∈ keys H))) ps x us0 h2) :
    ∃ R2, Inv G { slots := st.slots.map (forget (killIO io)), boxes := outsB ps x io st.boxes } vs w' (fun k => Im k ∨ (ImN k ∧ (w.heap.size ≤ k ∨ k ∈ keys H))) R2 h1 ∧
      ∀ r q c, r ∉ io → lev q = 0 → RefOK w R r q c → RefOK w' R2 r q c := by
  obtain ⟨R2, q1, q2, q3, q4⟩ := outs_real hio houts hdup
  have kH : ∀ k, k ∈ keys H ↔ k ∈ keys hand ∨ ∃ r ∈ io, k ∈ keys (own R [] (r + 1)) := fun k => by
    have := (hH.map (·.1)).mem_iff (a := k)
    rw [show H.map (·.1) = keys H from rfl, show (hand ++ ioFrag R io).map (·.1) = keys (hand ++ ioFrag R io) from rfl, keys_append, List.mem_append, mem_ioFrag] at this
    exact this
  have k2 : ∀ k, k ∈ keys h2 ↔ ∃ r ∈ io, k ∈ keys (own R2 [] (r + 1)) := fun k => by
    have := (q4.map (·.1)).mem_iff (a := k)
    rw [show h2.map (·.1) = keys h2 from rfl, show (ioFrag R2 io).map (·.1) = keys (ioFrag R2 io) from rfl, mem_ioFrag] at this
    exact this
  have n2 : (keys (ioFrag R2 io)).Nodup := by
    rw [keys_append] at hnod
    have q5 : List.Perm (keys h2) (keys (ioFrag R2 io)) := q4.map _
    exact q5.nodup_iff.1 (List.nodup_append.1 hnod).2.1
  -- what was not handed over stays
  have stay : ∀ j, j ∉ io → own R2 [] (j + 1) = own R [] (j + 1) := fun j hj => by simp only [own, q1 j hj]
  have old : ∀ j, j ∉ io → ∀ k ∈ keys (own R [] (j + 1)), k < w.heap.size ∧ k ∉ keys H := fun j hj k hk => by
    refine ⟨h.sep.lt (i := j + 1) hk, fun hm => ?_⟩
    rcases (kH k).1 hm with hm | ⟨r, hr, hm⟩
    · exact h.sep.sep (j + 1) 0 (by simp) k hk hm
    · exact h.sep.sep (j + 1) (r + 1) (by rintro e; have e : j = r := by simpa using e
                                          subst e; exact hj hr) k hk hm
  have same : ∀ k, k < w.heap.size → k ∉ keys H → w'.heap[k]? = w.heap[k]? := hkeep.block
  have g : Grow w w' Im (fun k => Im k ∨ (ImN k ∧ (w.heap.size ≤ k ∨ k ∈ keys H))) := ⟨fun _ h => .inl h, fun k hk => same k (h.sep.imlt k hk) (fun hm => hdis k hm (hImc k hk))⟩
  have newk : ∀ k, k ∈ keys h1 ∨ k ∈ keys h2 → k ∈ keys (h1 ++ h2) := fun k hk => by rw [keys_append]; exact List.mem_append.2 hk
  have hfresh : ∀ k, (w.heap.size ≤ k ∨ k ∈ keys H) → G.w0.heap.size ≤ k ∨ k ∈ G.ks := fun k hk => by
    rcases hk with hk | hk
    · exact .inl (Nat.le_trans h.keep.size hk)
    · rcases (kH k).1 hk with hk | ⟨r, _, hk⟩
      · exact h.sep.fresh 0 k hk
      · exact h.sep.fresh (r + 1) k hk
  -- each owner's keys: of the results, of a box that came back, of another
  have cls : ∀ j, ∀ k ∈ keys (own R2 h1 j), (j = 0 ∧ k ∈ keys h1) ∨ (∃ i, j = i + 1 ∧ i ∈ io ∧ k ∈ keys h2 ∧ k ∈ keys (own R2 [] (i + 1))) ∨ (∃ i, j = i + 1 ∧ i ∉ io ∧ k ∈ keys (own R [] (i + 1))) := by
    intro j k hk
    cases j with
    | zero => exact .inl ⟨rfl, hk⟩
    | succ i =>
      have hk : k ∈ keys (own R2 [] (i + 1)) := hk
      by_cases hi : i ∈ io
      · exact .inr (.inl ⟨i, rfl, hi, (k2 k).2 ⟨i, hi, hk⟩, hk⟩)
      · exact .inr (.inr ⟨i, rfl, hi, by rw [← stay i hi]; exact hk⟩)
  have isnew : ∀ k, k ∈ keys (h1 ++ h2) → ∀ i, i ∉ io → k ∉ keys (own R [] (i + 1)) := fun k hk i hi hk2 => by
    obtain ⟨o1, o2⟩ := old i hi k hk2
    rcases (hnew k hk).2 with h | h
    · omega
    · exact o2 h
  have hsv := h.sv g (R' := R2) (p := killIO io) (fun r => by
    by_cases hr : r ∈ io
    · refine .inr ⟨fun q v hp hh => ?_, fun q lo n v hp hh => ?_, fun q v hp hh => ?_⟩
      · simp [killIO, hr] at hp
      · simp [killIO, hr] at hp
      · have hp : lev q = 0 := by simpa [killIO, hr] using hp
        obtain ⟨b2, rb2, b, rb, s1, s2, s3, s4, s5, s6⟩ := q3 r hr
        intro b3 rb3 hb3
        rw [s1] at hb3; cases hb3
        obtain ⟨hv, cs, b', o', hn, e⟩ := hh b rb s2
        have hv2 : Valid b2.t b2.x b2.m q := by
          have key : ∀ (t : Ty), t = b.t → ∀ (x : den t) (m : Md), Valid t x m q := by
            intro t ht x m; subst ht; exact valid0 q hp hv
          exact key b2.t s5 b2.x b2.m
        obtain ⟨c', hn2⟩ := nav0 (w' := w') (cs' := rb2.cs) q hp hv hn
        refine ⟨hv2, c', b', o', ?_, e⟩
        have hloc : locOf b2 rb2 = locOf b rb := by unfold locOf; rw [s4, s3]
        rw [hloc, s5]; exact hn2
    · refine .inl ⟨q1 r hr, fun b rb hb k hk => ?_⟩
      have hk2 : k ∈ keys (own R [] (r + 1)) := by
        rw [own_at hb]; obtain ⟨p, hp, e⟩ := keys_mem.1 hk; exact keys_mem.2 ⟨p, fragOf_sub p hp, e⟩
      obtain ⟨o1, o2⟩ := old r hr k hk2
      exact same k o1 o2)
  refine ⟨R2, ?_, fun r q c hr h0 hh b rb hb => by
    rw [q1 r hr] at hb
    obtain ⟨hv, ht, ad, hn⟩ := hh b rb hb
    exact ⟨hv, ht, ad, by rw [nav_low q h0]; exact hn⟩⟩
  refine ⟨q2 st.boxes h.box, fun j b rb hb => ?_, ⟨fun j => ?_, fun i j hij k hi hj => ?_, fun j p hp => ?_, fun j k hk => ?_, fun j k hk => ?_, fun k hk => ?_, fun k hk => ?_⟩, fun n => ?_, ?_, ?_, fun j b rb hb => ?_⟩
  · by_cases hj : j ∈ io
    · obtain ⟨b2, rb2, b', rb', s1, _, _, _, _, s6, _⟩ := q3 j hj
      rw [s1] at hb; cases hb; exact s6
    · rw [q1 j hj] at hb
      exact (h.rep j b rb hb).grow g
  · cases j with
    | zero => rw [keys_append] at hnod; exact (List.nodup_append.1 hnod).1
    | succ i =>
      show (keys (own R2 [] (i + 1))).Nodup
      by_cases hi : i ∈ io
      · exact part_nodup n2 hi
      · rw [stay i hi]; exact h.sep.nod (i + 1)
  · rw [keys_append] at hnod
    have dj := (List.nodup_append.1 hnod).2.2
    rcases cls i k hi with ⟨e1, a1⟩ | ⟨i1, e1, b1, a1, c1⟩ | ⟨i1, e1, b1, a1⟩ <;> rcases cls j k hj with ⟨e2, a2⟩ | ⟨i2, e2, b2, a2, c2⟩ | ⟨i2, e2, b2, a2⟩
    · exact hij (e1.trans e2.symm)
    · exact dj k a1 k a2 rfl
    · exact isnew k (newk k (.inl a1)) i2 b2 a2
    · exact dj k a2 k a1 rfl
    · exact nodup_parts n2 b1 b2 (by rintro rfl; exact hij (e1.trans e2.symm)) c1 c2
    · exact isnew k (newk k (.inr a1)) i2 b2 a2
    · exact isnew k (newk k (.inl a2)) i1 b1 a1
    · exact isnew k (newk k (.inr a2)) i1 b1 a1
    · exact h.sep.sep (i1 + 1) (i2 + 1) (by rintro e; exact hij (by rw [e1, e2]; exact e)) k a1 a2
  · cases j with
    | zero => exact hheap p (List.mem_append_left _ hp)
    | succ i =>
      have hp : p ∈ own R2 [] (i + 1) := hp
      by_cases hi : i ∈ io
      · exact hheap p (List.mem_append_right _ (q4.mem_iff.2 (ioFrag_mem hi hp)))
      · rw [stay i hi] at hp
        obtain ⟨o1, o2⟩ := old i hi p.1 (keys_mem.2 ⟨p, hp, rfl⟩)
        rw [same p.1 o1 o2]; exact h.sep.heap (i + 1) p hp
  · have new : k ∈ keys (h1 ++ h2) → ¬ (Im k ∨ (ImN k ∧ (w.heap.size ≤ k ∨ k ∈ keys H))) := fun hm => by
      obtain ⟨m1, m2⟩ := hnew k hm
      rintro (h3 | h3)
      · rcases m2 with m2 | m2
        · have := h.sep.imlt k h3; omega
        · exact hdis k m2 (hImc k h3)
      · exact m1 h3.1
    rcases cls j k hk with ⟨_, a1⟩ | ⟨i1, _, _, a1, _⟩ | ⟨i1, e1, b1, a1⟩
    · exact new (newk k (.inl a1))
    · exact new (newk k (.inr a1))
    · obtain ⟨o1, o2⟩ := old i1 b1 k a1
      rintro (h3 | h3)
      · exact h.sep.im (i1 + 1) k a1 h3
      · rcases h3.2 with h4 | h4
        · omega
        · exact o2 h4
  · rcases cls j k hk with ⟨_, a1⟩ | ⟨i1, _, _, a1, _⟩ | ⟨i1, e1, b1, a1⟩
    · exact hfresh k (hnew k (newk k (.inl a1))).2
    · exact hfresh k (hnew k (newk k (.inr a1))).2
    · exact h.sep.fresh (i1 + 1) k a1
  · rcases hk with hk | hk
    · exact Nat.lt_of_lt_of_le (h.sep.imlt k hk) hkeep.size
    · exact hN k hk.1
  · rcases hk with hk | hk
    · exact h.sep.imok k hk
    · exact .inr (hfresh k hk.2)
  · rw [sget_map]; exact hsv.2 (h.slots n)
  · rw [List.length_map]; exact h.len
  · refine ⟨hkeep.os.trans h.keep.os, hkeep.tape.trans h.keep.tape, hkeep.output.trans h.keep.output, Nat.le_trans h.keep.size hkeep.size, fun b hb hn => ?_⟩
    rw [same b (Nat.lt_of_lt_of_le hb h.keep.size) (fun hm => ?_)]
    · exact h.keep.block b hb hn
    · rcases hfresh b (.inr hm) with h5 | h5
      · omega
      · exact hn h5
  · by_cases hj : j ∈ io
    · obtain ⟨b2, rb2, b', rb', s1, s2, _, s4, _, _, s7⟩ := q3 j hj
      rw [s1] at hb; cases hb
      exact RowOk.no s7
    · rw [q1 j hj] at hb
      exact h.row j b rb hb
end
end Go.Proofs.YtgdaiifhedpffaaDoor.V
set_option linter.unusedVariables false
set_option linter.unusedSimpArgs false
namespace Go.Proofs.YtgdaiifhedpffaaDoor.V
open Go
def FnOk (P : Program) (f : FuncId) : Prop := ∃ fn, P.funcs[f]? = some fn ∧ (fn.name == "runtime.NumGoroutine") = false ∧ fn.body.isNone = false
def ExOk (P : Program) (f : FuncId) (sm : Sm) : Prop := (∀ p ∈ sm.ps, ∃ t, p = .ro t) ∧ sm.part = false ∧
  ∀ (w : World) (Im : Nat → Prop) (vs : List Value) (x : ArgT sm.ps) (r : ResT sm.rs × OutT sm.ps), ArgsOk w Im sm.ps x vs [] → sm.F x = some r → ∃ us, (callFunc f vs.toArray).run P w = .ok (.value (valOf us)) w ∧ ResOk w Im sm.rs r.1 us []
def CalOk (P : Program) (f : FuncId) (sm : Sm) : Prop := (SmOk P f sm ∧ FnOk P f) ∨ ExOk P f sm
theorem ro_args {w : World} {Im : Nat → Prop} : ∀ {ps : List PK} {x : ArgT ps} {vs : List Value} {h : Frag}, (∀ p ∈ ps, ∃ t, p = PK.ro t) → ArgsOk w Im ps x vs h → h = [] ∧ ∀ (z : OutT ps) (w2 : World) (Im2 : Nat → Prop), OutsOk w2 Im2 ps z vs []
  | [], _, _, _, _, ha => ⟨ha.2, fun _ _ _ => rfl⟩
  | .ro t :: ps, x, vs, h, hp, ⟨v, vs', cs, e, _, _, ha⟩ => by
    obtain ⟨h1, h2⟩ := ro_args (ps := ps) (fun p hm => hp p (List.mem_cons_of_mem _ hm)) ha
    exact ⟨h1, fun z w2 Im2 => ⟨v, vs', e, h2 z w2 Im2⟩⟩
  | .mv _ _ :: ps, _, _, _, hp, _ => by obtain ⟨t, ht⟩ := hp _ (List.mem_cons_self ..); cases ht
  | .io _ _ _ :: ps, _, _, _, hp, _ => by obtain ⟨t, ht⟩ := hp _ (List.mem_cons_self ..); cases ht
  | .row _ _ :: ps, _, _, _, hp, _ => by obtain ⟨t, ht⟩ := hp _ (List.mem_cons_self ..); cases ht
  | .fn _ _ :: ps, _, _, _, hp, _ => by obtain ⟨t, ht⟩ := hp _ (List.mem_cons_self ..); cases ht
  | .lk _ :: ps, _, _, _, hp, _ => by obtain ⟨t, ht⟩ := hp _ (List.mem_cons_self ..); cases ht
  | .nil :: ps, _, _, _, hp, _ => by obtain ⟨t, ht⟩ := hp _ (List.mem_cons_self ..); cases ht
section
variable {P : Program} {G : Gl} {I0 : Nat → Prop} {st st0 st1 : St} {a : Act} {vs : Array Value} {w w' : World} {Im Im0 Im' : Nat → Prop} {R R0 R' : Real} {hand hand' : Frag} {o : Oper} {T : Type} {r0 : T} {E : Env}
theorem untup_ok : ∀ {s : SV} {us : List Value}, ends s = true → SVX w Im R s true us → ∃ l : List (SV × Value), l.map (·.1) = untup s ∧ l.map (·.2) = us ∧ ∀ p ∈ l, CV w Im R p.1 p.2
  | .tnil, us, _, h => ⟨[], rfl, h.2.symm, fun p hp => by simp at hp⟩
  | .tcons x s, us, he, ⟨_, v, vs', e, h1, h2⟩ => by
    obtain ⟨l, l1, l2, l3⟩ := untup_ok (s := s) he h2
    refine ⟨(x, v) :: l, by simp [untup, l1], by simp [l2, e], fun p hp => ?_⟩
    rcases List.mem_cons.1 hp with hp | hp
    · subst hp
      intro n1 _ _
      rcases h1 with h1 | h1
      · exact absurd h1 n1
      · exact h1
    · exact l3 p hp
theorem single_ok : ∀ {rs : List (Ty × Md)} {x : ResT rs} {s : SV} {us : List Value} {h : Frag} {b k : Nat} {st : St}, ResOk w Im rs x us h → s = (gots b rs x k st).1 → SVX w' Im' R s true us → SVV w' Im' R (single rs s) (valOf us)
  | [], x, s, us, h, b, k, st, hr, hs, hx => by
    have e : us = [] := hr.1
    subst e; subst hs
    exact .inr (.inl ⟨#[], rfl, hx, .inl rfl⟩)
  | [(t, m)], x, s, us, h, b, k, st, hr, hs, hx => by
    obtain ⟨u, us', cs, h1, h2, e1, e2, e3, r1, r2⟩ := hr
    have e : us' = [] := r2.1
    subst e; subst e1; subst hs
    obtain ⟨_, v, vs', e4, h5, _⟩ := hx
    cases e4
    exact h5.elim .inl (fun h => .inr (.inr h))
  | (t, m) :: (t2, m2) :: rs, x, s, us, h, b, k, st, hr, hs, hx => by
    obtain ⟨u, us', cs, h1, h2, e1, e2, e3, r1, r2⟩ := hr
    obtain ⟨u2, us2, cs2, h3, h4, f1, f2, f3, r3, r4⟩ := r2
    subst f1; subst e1; subst hs
    exact .inr (.inl ⟨(u :: u2 :: us2).toArray, rfl, hx, .inr ⟨_, _, rfl⟩⟩)
def partSV (x : Option (Nat × Nat × Nat)) (rw : List (Nat × Path)) : SV := match x, rw with
  | some (j, lo, n), (r, q) :: _ => .sub r (q ++ [.idx j]) lo n
  | _, _ => .undef
theorem part_some {sm : Sm} {x : ResT sm.rs} {rw' : List (Nat × Path)} {us : List Value} {v : Value} {d : Option Tmp} {K : St → Option T} (h : Inv G st vs w Im R hand)
    (hrw : RwOk w R sm.ps us rw') (hp : PartOk w sm.ps sm.rs x us v)
    (hk : partK sm.ps sm.rs x rw' st d K = some r0) : K (st.set d (partSV (trip sm.rs x) rw')) = some r0 ∧ SVV w Im R (partSV (trip sm.rs x) rw') v := by
  obtain ⟨t, m, ps', v0, vs', cs, c, et, j, lo, n, u, ad, e1, e2, e3, e4, e5, e6, e7⟩ := hp
  unfold partK at hk
  rw [e5] at hk ⊢
  rw [e1, e2] at hrw
  obtain ⟨v1, vs1, cs1, i1, i2, f1, f2, f3, f4, f5, _⟩ := hrw
  cases f1
  have := pack_inj e3 f4
  subst this
  cases rw' with
  | nil => cases hk
  | cons rq rw' =>
    obtain ⟨r, q⟩ := rq
    simp only at hk
    split at hk
    · rename_i hn
      rw [e1] at hn hk
      have hn : cntM t m = 1 := hn
      obtain ⟨r1, q1, g1, g2, g3⟩ := lend_leaf f5 hn f3 e4
      rw [g1] at f2
      cases f2
      split at hk
      · rename_i b hb
        obtain ⟨rb, hrr⟩ := h.real hb
        obtain ⟨hv, ht, ad1, hn1⟩ := g3 b rb hrr
        obtain ⟨_, rb1, hr1, hrep, _⟩ := h.ref hb g3
        obtain ⟨t', xs, m', p1, p2, p3, p4, hk⟩ := rowOf_some hk hrep
        split at hk
        · rename_i hty
          have hty : leafTy t m = some (.slc t') := hty
          rw [leaf_ty e4] at hty
          cases hty
          split at hk
          · rename_i hj
            obtain ⟨t1, A, len, cap, A', cap', h1, h2, h3, h4, h5, h6, h7⟩ := e7
            cases h1
            refine ⟨hk, .ofCell ⟨v, rfl, u, fun bb rbb hbb => ?_, fun bb rbb hbb => ?_⟩ rfl⟩
            · rw [hrr] at hbb; cases hbb
              refine ⟨(Valid_append q _).2 ⟨hv, p4 j hj, trivial⟩, ?_, ?_⟩
              · rw [ctype_append, p1]; rfl
              · rw [nav_append, hn1, p1]
                obtain ⟨ad2, hh⟩ : ∃ ad2, nav w (.slc (.slc t1)) [c] ad1 [.idx j] = some ([u], ad2) := ⟨ad, by rw [← e6]; rfl⟩
                exact ⟨ad2, hh⟩
            · rw [hrr] at hbb; cases hbb
              exact ⟨t1, A, len, cap, A', cap', by rw [ctype_append, p1]; rfl, h2, h3, h4, h5, h6, h7⟩
          · cases hk
        · cases hk
      · cases hk
    · cases hk
theorem call_ok {c : Cx} (hT : ∀ p ∈ c.T, CalOk P p.1 p.2) : CallOk P c G I0 := by
  intro T K r0 st a w o Im R Q cl f g caps hd hI h ho hc hf hend hk
  have hfv := h.ev f
  rw [hf] at hfv
  obtain ⟨capsV, e1, hcx⟩ := hfv.cell (by simp) (by simp) (by simp) rfl
  simp at e1
  obtain ⟨lc, l1, l2, l3⟩ := untup_ok hend hcx
  unfold callS at hk
  split at hk
  · rename_i sm hfind
    have hl : cl.args.toList.map st.ev ++ untup caps = ((cl.args.toList.map fun x => (st.ev x, a.eval x)) ++ lc).map (·.1) := by
      rw [List.map_append, l1, List.map_map]; rfl
    rw [hl] at hk
    have hcv : ∀ p ∈ (cl.args.toList.map fun x => (st.ev x, a.eval x)) ++ lc, CV w Im R p.1 p.2 := by
      intro p hp
      rcases List.mem_append.1 hp with hp | hp
      · obtain ⟨x, _, rfl⟩ := List.mem_map.1 hp
        exact CV.of (h.ev x)
      · exact l3 p hp
    obtain ⟨x, io, lo, mv, rw', st', Im', R', h1, H, k1, kr, k2, k3, k4, k5, k6, k7, k8⟩ := args_some (h0 := h) hk h hcv (fun p hp => (hcv p hp).shallow)
    split at k1
    · rename_i hchk
      simp only [Bool.and_eq_true, List.all_eq_true, Bool.not_eq_true'] at hchk
      obtain ⟨⟨⟨hdis, hdup⟩, hrwio⟩, hro⟩ := hchk
      obtain ⟨r, hr, k1⟩ := Option.bind_eq_some_iff.1 k1
      have notlo : ∀ j, j ∈ io ∨ j ∈ mv → j ∉ lo := fun j hj hm => by
        have := hdis j (List.mem_append.2 hj)
        rw [List.contains_iff_mem.2 hm] at this; cases this
      have harg := k8 (With Im' R' lo) (fun k hk => .inl hk) (fun k hk => by
        rcases hk with hk | ⟨r, b, rb, q1, q2, q3⟩
        · exact .inl (k3.im k hk)
        · exact .inr ⟨r, b, rb, q1, by rw [k4 r (fun hm => notlo r (.inr hm) q1)]; exact q2, q3⟩)
      have k2' : Inv G st' a.tmps w Im' R' h1 := k2
      have kH : ∀ k, k ∈ keys H → k ∈ keys h1 ∨ ∃ r ∈ io, k ∈ keys (own R' [] (r + 1)) := fun k hk => by
        have q : List.Perm (keys H) (keys (h1 ++ ioFrag R' io)) := k6.map _
        have := q.mem_iff.1 hk
        rw [keys_append, List.mem_append, mem_ioFrag] at this
        exact this
      have hImlt : ∀ k, With Im' R' lo k → k < w.heap.size := fun k hk => by
        rcases hk with hk | ⟨r, b, rb, q1, q2, q3⟩
        · exact k2'.sep.imlt k hk
        · exact k2'.sep.lt (i := r + 1) (by rw [own_at q2]; exact q3)
      have hdisH : ∀ k ∈ keys H, ¬ With Im' R' lo k := fun k hk hw => by
        have hsome : ∃ i, k ∈ keys (own R' h1 i) ∧ ∀ j, i = j + 1 → j ∉ lo := by
          rcases kH k hk with hk | ⟨r, hr, hk⟩
          · exact ⟨0, hk, fun j hj => by cases hj⟩
          · exact ⟨r + 1, hk, fun j hj => by cases hj; exact notlo r (.inl hr)⟩
        obtain ⟨i, hi, hil⟩ := hsome
        rcases hw with hw | ⟨r, b, rb, q1, q2, q3⟩
        · exact k2'.sep.im i k hi hw
        · exact k2'.sep.sep i (r + 1) (fun e => hil r e q1) k hi (by rw [own_at q2]; exact q3)
      have hnodH : (keys H).Nodup := by
        have q : List.Perm (keys H) (keys (h1 ++ ioFrag R' io)) := k6.map _
        rw [q.nodup_iff, keys_append]
        refine List.nodup_append.2 ⟨k2'.sep.nod 0, ioFrag_nodup k2' hdup, fun y hy z hz e => ?_⟩
        subst e
        obtain ⟨s, _, h2⟩ := mem_ioFrag.1 hz
        exact k2'.sep.sep 0 (s + 1) (by simp) y hy h2
      have hheapH : HeapOK w H := fun p hp => by
        have hp := k6.mem_iff.1 hp
        have : ∀ {l : List Nat}, p ∈ ioFrag R' l → ∃ i, p ∈ own R' h1 (i + 1) := by
          intro l
          induction l with
          | nil => intro h; simp [ioFrag] at h
          | cons r l ih =>
            intro h
            rcases List.mem_append.1 h with h | h
            · exact ⟨r, h⟩
            · exact ih h
        rcases List.mem_append.1 hp with hp | hp
        · exact k2'.sep.heap 0 p hp
        · obtain ⟨i, hi⟩ := this hp; exact k2'.sep.heap (i + 1) p hi
      have hargs : (((cl.args.toList.map fun x => (st.ev x, a.eval x)) ++ lc).map (·.2)).toArray = cl.args.map a.eval ++ capsV := by
        apply Array.ext'
        rw [List.map_append, l2, List.map_map]
        simp [Function.comp_def]
      have tail : ∀ (w2 : World) (us : List Value) (ImN : Nat → Prop) (g1 g2 : Frag), GiveOk w2 ImN sm r.1 (((cl.args.toList.map fun x => (st.ev x, a.eval x)) ++ lc).map (·.2)) us g1 → OutsOk w2 ImN sm.ps r.2 (((cl.args.toList.map fun x => (st.ev x, a.eval x)) ++ lc).map (·.2)) g2 → HeapOK w2 (g1 ++ g2) → (keys (g1 ++ g2)).Nodup →
          (∀ k ∈ keys (g1 ++ g2), ¬ ImN k ∧ (w.heap.size ≤ k ∨ k ∈ keys H)) → (∀ k, ImN k → k < w2.heap.size ∧ (With Im' R' lo k ∨ w.heap.size ≤ k ∨ k ∈ keys H)) → Keep ⟨w, keys H, With Im' R' lo, fun _ _ => .bool false⟩ w2 → Post G I0 K r0 (a.put o.dst (valOf us)) w2 := by
        intro w2 us ImN g1 g2 q1 q2 q3 q4 q5 q7 q8
        have hconv : (∀ k, ImN k → (Im' k ∨ (ImN k ∧ (w.heap.size ≤ k ∨ k ∈ keys H)))) ∨ ((sm.rs.all fun p => V.noRo p.1 p.2) = true ∧ psNoRo sm.ps = true) := by
          simp only [Bool.or_eq_true, Bool.and_eq_true] at hro
          rcases hro with hlo | hro
          · refine .inl fun k hk => ?_
            rcases (q7 k hk).2 with h3 | h3
            · rcases h3 with h3 | ⟨r, b, rb, hr, _⟩
              · exact .inl h3
              · rw [List.isEmpty_iff.1 hlo] at hr; simp at hr
            · exact .inr ⟨hk, h3⟩
          · exact .inr hro
        obtain ⟨fi, fr, pf, oi, orw⟩ := outs_split (q2.conv (Im2 := fun k => Im' k ∨ (ImN k ∧ (w.heap.size ≤ k ∨ k ∈ keys H))) (hconv.imp id (·.2)))
        have pg : List.Perm (g1 ++ g2) ((g1 ++ fr) ++ fi) := by
          rw [List.append_assoc]
          exact List.Perm.append_left _ (pf.trans List.perm_append_comm)
        have pk : ∀ k, k ∈ keys ((g1 ++ fr) ++ fi) → k ∈ keys (g1 ++ g2) := fun k hk => (show List.Perm (keys (g1 ++ g2)) (keys ((g1 ++ fr) ++ fi)) from pg.map _).mem_iff.2 hk
        obtain ⟨R2, hi2, hio2⟩ := k2'.called (h1 := g1 ++ fr) (h2 := fi) k7 hdup k6 (Imc := With Im' R' lo) (fun k hk => .inl hk) hdisH (fun p hp => q3 p (pg.mem_iff.2 hp)) ((show List.Perm (keys (g1 ++ g2)) (keys ((g1 ++ fr) ++ fi)) from pg.map _).nodup_iff.1 q4) (fun k hk => q5 k (pk k hk)) (fun k hk => (q7 k hk).1) q8 oi
        have kr2 := kr.mono (w' := w2) (R' := R2) fun r q c hm h0 hh => hio2 r q c (fun hm2 => by
          have := hrwio (r, q) hm
          rw [List.contains_iff_mem.2 hm2] at this; cases this) h0 hh
        obtain ⟨st3, R3, k1, hi3, q9⟩ := backS_some k1 hi2 kr2 orw
        have kr3 := kr2.mono (w' := w2) (R' := R3) fun r q c _ h0 hh => q9 r q c h0 hh
        rcases q1 with ⟨hpt, q1⟩ | ⟨hpt, e1, v, e2, hpart⟩
        rotate_left
        · subst e1; subst e2
          rw [hpt] at k1
          have hps := part_some hi3 kr3 hpart (when_some k1).2.2
          exact ⟨_, hps.1, by rw [put_defers]; exact hd, _, R3, fun b hb => .inl (k3.im b (hI b hb)), hi3.put o.dst hps.2⟩
        rw [hpt] at k1
        have q1' := q1.conv (Im2 := fun k => Im' k ∨ (ImN k ∧ (w.heap.size ≤ k ∨ k ∈ keys H))) (hconv.imp id (·.1))
        obtain ⟨R4, hi4, hs4, _, _⟩ := gots_ok (base := o.dst.getD 0 * 16) (k := 0) (hand := []) hi3 q1'
        exact ⟨_, k1, by rw [put_defers]; exact hd, _, R4, fun b hb => .inl (k3.im b (hI b hb)), hi4.put o.dst (single_ok q1' rfl hs4)⟩
      rcases hT (g, sm) (Tab.find_mem hfind) with ⟨hSm, fn, hfn, hname, hbody⟩ | hEx
      · have hcalls := hSm w (With Im' R' lo) _ x H r hImlt harg hheapH hnodH hdisH hr
        have hrun : (execOp a.eval o).run P w = .ok (.enter g (((cl.args.toList.map fun x => (st.ev x, a.eval x)) ++ lc).map (·.2)).toArray) w := by
          rw [hargs]
          have n1 : ¬ fn.name = "runtime.NumGoroutine" := by simpa using hname
          have n2 : ¬ fn.body = none := by intro e; rw [e] at hbody; cases hbody
          simp [execOp, ho, resolve, hc, e1, Deferred.ofValue, invoke, callFunc, hfn, n1, n2]
        unfold Oper.wp
        rw [hrun, Oper.upon_enter]
        refine hcalls.mono fun e w2 hq => ?_
        obtain ⟨us, ImN, g1, g2, rfl, q1, q2, q3, q4, q5, q6, q7, q8⟩ := hq
        exact tail w2 us ImN g1 g2 q1 q2 q3 q4 q5 q7 q8
      · obtain ⟨hp, hpt, hEx⟩ := hEx
        obtain ⟨eH, hout⟩ := ro_args hp harg
        subst eH
        obtain ⟨us, hcall, hres⟩ := hEx w (With Im' R' lo) _ x r harg hr
        have hrun : (execOp a.eval o).run P w = .ok (.value (valOf us)) w := by
          rw [hargs] at hcall
          simp [execOp, ho, resolve, hc, e1, Deferred.ofValue, invoke, hcall]
        unfold Oper.wp
        rw [hrun, Oper.upon_value]
        exact tail w us (With Im' R' lo) [] [] (.inl ⟨hpt, hres⟩) (hout _ _ _) (fun p hp => by simp at hp) List.nodup_nil (fun k hk => by simp [keys] at hk) (fun k hk => ⟨hImlt k hk, .inl hk⟩) ⟨rfl, rfl, rfl, Nat.le_refl _, fun _ _ _ => rfl⟩
    · cases k1
  · cases hk
end
end Go.Proofs.YtgdaiifhedpffaaDoor.V
set_option linter.unusedVariables false
set_option linter.unusedSimpArgs false
namespace Go.Proofs.YtgdaiifhedpffaaDoor.V
open Go
def capSV : (ts : List (Bool × Ty)) → denL ts → SV
  | [], _ => .tnil
  | (true, t) :: ts, x => .tcons (.pro t x.1) (capSV ts x.2)
  | (false, t) :: ts, x => .tcons (.con t x.1) (capSV ts x.2)
def gotR (n : Nat) : (t : Ty) → Md → den t → Nat → St → SV × St
  | .pair a b, m, x, o, st =>
    let p := gotR n a m.fst x.1 o st
    let p' := gotR n b m.snd x.2 (o + sz a) p.2
    (.agg p.1 p'.1, p'.2)
  | .slc t, .own m, x, o, st => (.ref (n * 16 + o) [], st.lay (n * 16 + o) { mem := none, t := .slc t, m := .own m, x := x, row := some (n, o) })
  | .slc t, .ro, x, _, st => (.con (.slc t) x, st)
  | .slc _, _, _, _, st => (.undef, st)
  | .mp k v, .own m, x, o, st => (.ref (n * 16 + o) [], st.lay (n * 16 + o) { mem := none, t := .mp k v, m := .own m, x := x, row := some (n, o) })
  | .mp a b, .ro, x, _, st => (.con (.mp a b) x, st)
  | .mp _ _, _, _, _, st => (.undef, st)
  | t, _, x, _, st => (.con t x, st)
def entry : (ps : List PK) → List Nat → ArgT ps → Nat → St → St
  | [], _, _, _, st => st
  | .ro t :: ps, ks, x, i, st => entry ps ks x.2 (i + 1) (st.push (.con t x.1))
  | .mv t m :: ps, ks, x, i, st => entry ps ks x.2 (i + 1) ((got (i * 16) t m x.1 0 st).2.2.push (got (i * 16) t m x.1 0 st).1)
  | .io e t m :: ps, ks, x, i, st => entry ps ks.tail x.2 (i + 1) ((st.lay (i * 16) { mem := some e, t := t, m := m, x := x.1, pin := some (ks.headD 0) }).push (.ptr (i * 16) []))
  | .row t m :: ps, ks, x, i, st => entry ps ks x.2 (i + 1) ((gotR i t m x.1 0 st).2.push (gotR i t m x.1 0 st).1)
  | .lk t :: ps, ks, x, i, st => entry ps ks x.2 (i + 1) (st.push (.pro t x.1))
  | .nil :: ps, ks, x, i, st => entry ps ks x.2 (i + 1) (st.push (.raw (.slice none 0 0)))
  | .fn f ts :: ps, ks, x, i, st => entry ps ks x.2 (i + 1) (st.push (.fn f (capSV ts x.1)))
def St.pad (st : St) (n : Nat) : St := { st with slots := st.slots ++ List.replicate (n - st.slots.length) .undef }
def start (ps : List PK) (ks : List Nat) (x : ArgT ps) (n : Nat) : St := (entry ps ks x 0 ⟨[], []⟩).pad n
section cps
variable {R : Type}
def rvS (E : Env) (st : St) : ResultVar → (SV → Option R) → Option R
  | .tmp i, K => K (sget st.slots i)
  | .cell a t, K => match E.get t with
    | some te => loadS st.boxes te.ty (sget st.slots a) K
    | none => none
def endS (E : Env) : List ResultVar → (rs : List (Ty × Md)) → St → (ResT rs → St → Option R) → Option R
  | [], [], st, K => K () st
  | rv :: rvs, (t, m) :: rs, st, K => rvS E st rv fun s => if isAgg s = aggTy t then toC st s t m fun x m' st => if sameM t m' m = true then endS E rvs rs st fun y st => K (x, y) st else none else none
  | _, _, _, _ => none
def takeR (n : Nat) (bs : List (Nat × Bx)) : (t : Ty) → (m : Md) → Nat → (RowT t m → Option R) → Option R
  | .pair a b, m, o, K => takeR n bs a m.fst o fun x => takeR n bs b m.snd (o + sz a) fun y => K (x, y)
  | .slc t, .own m, o, K => match bget bs (n * 16 + o) with
    | some b => if b.mem = none ∧ b.row = some (n, o) then (if h : b.t = .slc t then (if sameM (.slc t) b.m (.own m) = true then K (h ▸ b.x : den (.slc t)) else none) else none) else none
    | none => none
  | .mp k v, .own m, o, K => match bget bs (n * 16 + o) with
    | some b => if b.mem = none ∧ b.row = some (n, o) then (if h : b.t = .mp k v then (if sameM (.mp k v) b.m (.own m) = true then K (h ▸ b.x : den (.mp k v)) else none) else none) else none
    | none => none
  | .slc _, .ro, _, K => K ()
  | .slc _, .dead, _, K => K ()
  | .slc _, .rz, _, K => K ()
  | .slc _, .pair _ _, _, K => K ()
  | .mp _ _, .ro, _, K => K ()
  | .mp _ _, .dead, _, K => K ()
  | .mp _ _, .rz, _, K => K ()
  | .mp _ _, .pair _ _, _, K => K ()
  | .int _, _, _, K => K ()
  | .bool, _, _, K => K ()
  | .str, _, _, K => K ()
  | .raw, _, _, K => K ()
  | .unit, _, _, K => K ()
def ioOut : (ps : List PK) → Nat → List (Nat × Bx) → (OutT ps → List (Option Nat) → Option R) → Option R
  | [], _, _, K => K () []
  | .ro _ :: ps, i, bs, K => ioOut ps (i + 1) bs K
  | .mv _ _ :: ps, i, bs, K => ioOut ps (i + 1) bs K
  | .fn _ _ :: ps, i, bs, K => ioOut ps (i + 1) bs K
  | .nil :: ps, i, bs, K => ioOut ps (i + 1) bs K
  | .lk _ :: ps, i, bs, K => ioOut ps (i + 1) bs K
  | .io e t m :: ps, i, bs, K => match bget bs (i * 16) with
    | some b => if b.mem = some e then (if h : b.t = t then (if sameM t b.m m = true then ioOut ps (i + 1) bs fun y l => K (h ▸ b.x, y) (b.pin :: l) else none) else none) else none
    | none => none
  | .row t m :: ps, i, bs, K => if sz t ≤ 16 then takeR i bs t m 0 fun x => ioOut ps (i + 1) bs fun y l => K (x, y) l else none
end cps
def leafAt : Ty → Md → Nat → Option Nat
  | .pair a b, m, o => if cntM a m.fst = 1 then leafAt a m.fst o else leafAt b m.snd (o + sz a)
  | .slc _, .own _, o => some o
  | .mp _ _, .own _, o => some o
  | _, _, _ => none
def homePath : Ty → Md → Path
  | .pair a b, m => if cntM a m.fst = 1 then .fst :: homePath a m.fst else .snd :: homePath b m.snd
  | _, _ => []
def tagBox : List (Nat × Bx) → Nat → Option Nat
  | [], _ => none
  | (r, b) :: l, n => if b.mem.isSome = true ∧ b.row = some (n, 0) then some r else tagBox l n
def isOwnB : Md → Bool
  | .own _ => true
  | _ => false
def home1 (n : Nat) (t : Ty) (m : Md) (st : St) : St :=
  match tagBox st.boxes n, leafAt t m 0 with
  | some r, some o => match bget st.boxes r with
    | some b => if b.mem.isSome = true ∧ b.row = some (n, 0) ∧ b.t = t ∧ cntM t m = 1 ∧ isHd (ctype b.t (homePath t m)) = true ∧ isOwnB (mget b.m (homePath t m)) = true then
        (st.take r (homePath t m) b).lay (n * 16 + o) { mem := none, t := ctype b.t (homePath t m), m := mget b.m (homePath t m), x := cget b.t b.x (homePath t m), row := some (n, o) }
      else st
    | none => st
  | _, _ => st
def homes : List PK → Nat → St → St
  | [], _, st => st
  | .row t m :: ps, i, st => homes ps (i + 1) (home1 i t m st)
  | _ :: ps, i, st => homes ps (i + 1) st
def fin (E : Env) (rvs : List ResultVar) (ps : List PK) (rs : List (Ty × Md)) (st : St) : Option ((ResT rs × OutT ps) × List (Option Nat)) :=
  endS E rvs rs st fun y st => ioOut ps 0 (homes ps 0 st).boxes fun z l => some ((y, z), l)
def finK (E : Env) (rvs : List ResultVar) (ps : List PK) (rs : List (Ty × Md)) : Ex → St → Option ((ResT rs × OutT ps) × List (Option Nat))
  | .normal, st => fin E rvs ps rs st
  | .ret, st => fin E rvs ps rs st
  | .exit _, _ => none
def mkTrip : (rs : List (Ty × Md)) → Nat → Nat → Nat → Option (ResT rs)
  | [(.int _, _), (.int _, _), (.int _, _)], j, lo, n => some (((j : Nat) : Int), ((lo : Nat) : Int), ((n : Nat) : Int), ())
  | _, _, _, _ => none
theorem trip_mk : ∀ {rs : List (Ty × Md)} {j lo n : Nat} {x : ResT rs}, mkTrip rs j lo n = some x → trip rs x = some (j, lo, n) := by
  intro rs j lo n x h
  unfold mkTrip at h
  split at h
  · cases h; simp [trip]
  · cases h
def partAt (ps : List PK) (bs : List (Nat × Bx)) (r : Nat) (q : Path) : Option Nat :=
  match ps with
  | .row t m :: _ => match q.reverse with
    | .idx j :: p => match bget bs r, leafAt t m 0 with
      | some b, some o => if cntM t m = 1 ∧ leafTy t m = some (ctype b.t p.reverse) ∧ ((b.mem = none ∧ b.row = some (0, o) ∧ p.reverse = []) ∨ (b.mem.isSome = true ∧ b.row = some (0, 0) ∧ b.t = t ∧ p.reverse = homePath t m)) then some j else none
      | _, _ => none
    | _ => none
  | _ => none
def finP (E : Env) (rvs : List ResultVar) (ps : List PK) (rs : List (Ty × Md)) (st : St) : Option ((ResT rs × OutT ps) × List (Option Nat)) :=
  match rvs with
  | [rv] => rvS E st rv fun s => match s with
    | .sub r q lo n => match partAt ps st.boxes r q with
      | some j => (mkTrip rs j lo n).bind fun x => ioOut ps 0 (homes ps 0 st).boxes fun z l => some ((x, z), l)
      | none => none
    | _ => none
  | _ => none
def finPK (E : Env) (rvs : List ResultVar) (ps : List PK) (rs : List (Ty × Md)) : Ex → St → Option ((ResT rs × OutT ps) × List (Option Nat))
  | .normal, st => finP E rvs ps rs st
  | .ret, st => finP E rvs ps rs st
  | .exit _, _ => none
def cellsV : Value → List Value
  | .agg a => a.toList
  | v => [v]
theorem cellsV_pack {w : World} {Im : Nat → Prop} {t : Ty} {m : Md} {x : den t} {cs : List Value} {v : Value} {h : Frag} (hp : pack t cs v) (hr : Rep w Im t m x cs h) : cellsV v = cs := by
  unfold pack at hp
  split at hp
  · rw [hp]; simp [cellsV]
  · have h1 := hr.one
    rw [hp] at h1 ⊢
    have := h1 v (List.mem_singleton_self _)
    cases v <;> simp_all [cellsV, Value.oneCell']
def ksOf : List PK → List Value → List Nat
  | .io _ _ _ :: ps, .pointer (some a) :: vs => a.block :: ksOf ps vs
  | _ :: ps, _ :: vs => ksOf ps vs
  | _, _ => []
def ioN : List PK → Nat
  | [] => 0
  | .io _ _ _ :: ps => ioN ps + 1
  | .row _ _ :: ps => ioN ps
  | .ro _ :: ps => ioN ps
  | .mv _ _ :: ps => ioN ps
  | .fn _ _ :: ps => ioN ps
  | .nil :: ps => ioN ps
  | .lk _ :: ps => ioN ps
theorem ksOf_len {w : World} {Im : Nat → Prop} : ∀ {ps : List PK} {x : ArgT ps} {us : List Value} {h : Frag}, ArgsOk w Im ps x us h → (ksOf ps us).length = ioN ps := by
  intro ps
  induction ps with
  | nil => intro x us h ha; rfl
  | cons pk ps ih =>
    intro x us h ha
    cases pk with
    | ro t => obtain ⟨v, vs', cs, e, _, _, ha⟩ := ha; subst e; exact ih ha
    | mv t m => obtain ⟨v, vs', cs, g1, g2, e, _, _, _, ha⟩ := ha; subst e; exact ih ha
    | io e t m =>
      obtain ⟨vs', b, cs, g1, g2, e1, _, _, ha⟩ := ha; subst e1
      simp only [ksOf, ioN, List.length_cons]; rw [ih ha]
    | row t m => obtain ⟨v, vs', cs, g1, g2, e, _, _, _, ha⟩ := ha; subst e; exact ih ha
    | fn f ts => obtain ⟨vs', caps, e, _, ha⟩ := ha; subst e; exact ih ha
    | nil => obtain ⟨vs', e, ha⟩ := ha; subst e; exact ih ha
    | lk t => obtain ⟨v, vs', e, _, ha⟩ := ha; subst e; exact ih ha
section
variable {P : Program} {G : Gl} {I0 : Nat → Prop} {st st0 st1 : St} {a : Act} {vs : Array Value} {w w' : World} {Im Im0 Im' : Nat → Prop} {R R0 R' : Real} {hand hand' : Frag} {o : Oper} {T : Type} {r0 : T} {E : Env}
theorem Inv.pad (h : Inv G st vs w Im R hand) (n : Nat) : Inv G (st.pad n) (vs ++ Array.replicate (n - vs.size) Go.undef) w Im R hand := by
  refine ⟨h.box, h.rep, h.sep, fun i => ?_, by simp [St.pad, h.len], h.keep, h.row⟩
  show SVV w Im R (sget (st.slots ++ List.replicate (n - st.slots.length) .undef) i) _
  rw [sget_append, h.len]
  by_cases h1 : i < vs.size
  · rw [if_pos h1, Array.getD_eq_getD_getElem?, Array.getElem?_append_left h1]
    have := h.slots i
    rwa [Array.getD_eq_getD_getElem?] at this
  · rw [if_neg h1]
    have : ∀ (k j : Nat), sget (List.replicate k .undef) j = .undef := by
      intro k
      induction k with
      | zero => intro j; rfl
      | succ k ih => intro j; cases j with
        | zero => rfl
        | succ j => exact ih j
    rw [this]; exact .inl rfl
theorem capSV_ok : ∀ {ts : List (Bool × Ty)} {x : denL ts} {us : List Value}, CapsOk w Im ts x us → SVX w Im R (capSV ts x) true us
  | [], _, _, h => ⟨rfl, h⟩
  | (true, t) :: ts, x, us, ⟨v, vs', e, ⟨b, o, c, el, fz, e1, e2, e3, e4⟩, h⟩ => ⟨rfl, v, vs', e, .inr ⟨[v], rfl, b, o, c, el, fz, by rw [e1], e2, e3, e4⟩, capSV_ok h⟩
  | (false, t) :: ts, x, us, ⟨v, vs', cs, e, hp, r, h⟩ => ⟨rfl, v, vs', e, .inr ⟨cs, by rw [isAgg_con]; exact hp, r⟩, capSV_ok h⟩
theorem gotR_ok {n : Nat} : ∀ {t : Ty} {m : Md} {x : den t} {o : Nat} {st : St} {R : Real} {hand h1 : Frag} {cs : List Value}, Inv G st vs w Im R (hand ++ h1) → Rep w Im t m x cs h1 → (∀ k c, cs[k]? = some c → G.hd n (o + k) = c) →
    ∃ R', Inv G (gotR n t m x o st).2 vs w Im R' hand ∧ SVX w Im R' (gotR n t m x o st).1 false cs ∧ (∀ j ∈ V.roots (gotR n t m x o st).1, n * 16 + o ≤ j ∧ j < n * 16 + o + sz t) ∧
      (∀ j, (j < n * 16 + o ∨ n * 16 + o + sz t ≤ j) → R' j = R j) ∧ ((gotR n t m x o st).1 ≠ .undef → isAgg (gotR n t m x o st).1 = aggTy t) := by
  intro t
  induction t with
  | pair a b iha ihb =>
    intro m x o st R hand h1 cs h hr hg
    obtain ⟨c1, c2, g1, g2, e1, e2, r1, r2⟩ := hr
    subst e1; subst e2
    obtain ⟨R1, i1, s1, q1, o1, _⟩ := iha (o := o) (st := st) (hand := hand ++ g2) (h.perm (by rw [List.append_assoc]; exact List.Perm.append_left _ List.perm_append_comm)) r1 (fun k c hk => hg k c (by
      rw [List.getElem?_append_left (by exact (List.getElem?_eq_some_iff.1 hk).1)]; exact hk))
    obtain ⟨R2, i2, s2, q2, o2, _⟩ := ihb (o := o + sz a) (st := (gotR n a m.fst x.1 o st).2) i1 r2 (fun k c hk => by
      have := hg (sz a + k) c (by rw [← r1.len, List.getElem?_append_right (by omega)]; simpa using hk)
      rw [← this]; congr 1; omega)
    refine ⟨R2, i2, ⟨c1, c2, rfl, s1.roots fun j hj => o2 j (.inl (by have := q1 j hj; omega)), s2⟩, fun j hj => ?_, fun j hj => ?_, fun _ => rfl⟩
    · simp only [sz]
      rcases List.mem_append.1 hj with hj | hj
      · have := q1 j hj; omega
      · have := q2 j hj; omega
    · simp only [sz] at hj
      rw [o2 j (by omega), o1 j (by omega)]
  | slc t ih =>
    intro m x o st R hand h1 cs h hr hg
    cases m with
    | ro =>
      have := hr.1; subst this
      rw [List.append_nil] at h
      exact ⟨R, h, hr, fun j hj => by simp [gotR, V.roots] at hj, fun _ _ => rfl, fun _ => rfl⟩
    | own m =>
      obtain ⟨v, rfl⟩ : ∃ v, cs = [v] := by
        have := hr.len; simp [sz] at this
        match cs, this with
        | [v], _ => exact ⟨v, rfl⟩
      have hi := h.lay (n * 16 + o) (b := { mem := none, t := .slc t, m := .own m, x := x, row := some (n, o) }) (rb := ⟨0, [v], h1⟩) hr rfl (fun k hk => by
        cases hk
        exact ⟨fun _ => by rw [← hg 0 v rfl]; rfl, fun hm => absurd rfl hm⟩)
      refine ⟨_, hi, ⟨v, rfl, ?_⟩, fun j hj => ?_, fun j hj => ?_, fun _ => rfl⟩
      · intro b2 rb2 hb2
        simp only [if_true] at hb2; cases hb2
        exact ⟨trivial, rfl, none, rfl⟩
      · simp [gotR, V.roots, sz] at hj ⊢; omega
      · have : j ≠ n * 16 + o := by simp [sz] at hj; omega
        simp [this]
    | _ =>
      have hl := hr.len
      exact ⟨R, h.drop, hl, fun j hj => by simp [gotR, V.roots] at hj, fun _ _ => rfl, fun hh => absurd rfl hh⟩
  | mp kt vt ihk ihv =>
    intro m x o st R hand h1 cs h hr hg
    cases m with
    | ro =>
      have := hr.1; subst this
      rw [List.append_nil] at h
      exact ⟨R, h, hr, fun j hj => by simp [gotR, V.roots] at hj, fun _ _ => rfl, fun _ => rfl⟩
    | own m =>
      obtain ⟨v, rfl⟩ : ∃ v, cs = [v] := by
        have := hr.len; simp [sz] at this
        match cs, this with
        | [v], _ => exact ⟨v, rfl⟩
      have hi := h.lay (n * 16 + o) (b := { mem := none, t := .mp kt vt, m := .own m, x := x, row := some (n, o) }) (rb := ⟨0, [v], h1⟩) hr rfl (fun k hk => by
        cases hk
        exact ⟨fun _ => by rw [← hg 0 v rfl]; rfl, fun hm => absurd rfl hm⟩)
      refine ⟨_, hi, ⟨v, rfl, ?_⟩, fun j hj => ?_, fun j hj => ?_, fun _ => rfl⟩
      · intro b2 rb2 hb2
        simp only [if_true] at hb2; cases hb2
        exact ⟨trivial, rfl, none, rfl⟩
      · simp [gotR, V.roots, sz] at hj ⊢; omega
      · have : j ≠ n * 16 + o := by simp [sz] at hj; omega
        simp [this]
    | _ =>
      have hl := hr.len
      exact ⟨R, h.drop, hl, fun j hj => by simp [gotR, V.roots] at hj, fun _ _ => rfl, fun hh => absurd rfl hh⟩
  | _ =>
    intro m x o st R hand h1 cs h hr hg
    obtain ⟨e, hr2⟩ := flat_any rfl hr
    subst e
    rw [List.append_nil] at h
    exact ⟨R, h, hr2 .ro, fun j hj => by simp [gotR, V.roots] at hj, fun _ _ => rfl, fun _ => rfl⟩
theorem entry_ok : ∀ {ps : List PK} {x : ArgT ps} {us : List Value} {h : Frag} {i : Nat} {st : St} {vs : Array Value} {R : Real}, ArgsOk w Im ps x us h → (∀ j v, us[j]? = some v → ∀ k c, (cellsV v)[k]? = some c → G.hd (i + j) k = c) → Inv G st vs w Im R h →
    ∃ R', Inv G (entry ps (ksOf ps us) x i st) (vs ++ us.toArray) w Im R' [] := by
  intro ps
  induction ps with
  | nil =>
    intro x us h i st vs R ha hg hi
    obtain ⟨e1, e2⟩ := ha
    subst e1; subst e2
    exact ⟨R, by simpa [entry] using hi⟩
  | cons pk ps ih =>
    intro x us h i st vs R ha hg hi
    have hg' : ∀ {v : Value} {vs' : List Value}, us = v :: vs' → ∀ j u, vs'[j]? = some u → ∀ k c, (cellsV u)[k]? = some c → G.hd (i + 1 + j) k = c := by
      intro v vs' e j u hu
      have := hg (j + 1) u (by rw [e]; simpa using hu)
      rwa [show i + (j + 1) = i + 1 + j by omega] at this
    cases pk with
    | ro t =>
      obtain ⟨v, vs', cs, e, hp, hr, ha⟩ := ha
      subst e
      have h1 := hi.push (s := .con t x.1) (.ofPack (t := t) (R := R) hr hp (fun _ => isAgg_con _ _))
      obtain ⟨R', h2⟩ := ih (i := i + 1) ha (hg' rfl) h1
      refine ⟨R', ?_⟩
      have e : vs ++ (v :: vs').toArray = vs.push v ++ vs'.toArray := by apply Array.ext'; simp
      rw [e]; exact h2
    | mv t m =>
      obtain ⟨v, vs', cs, g1, g2, e, e2, hp, hr, ha⟩ := ha
      subst e; subst e2
      obtain ⟨R1, h1, hs, _, _, _, hag⟩ := got_ok (base := i * 16) (k := 0) (hand := g2) (hi.perm List.perm_append_comm) hr
      have h1 := h1.push (v := v) (.ofPack (t := t) hs hp (fun _ => hag))
      obtain ⟨R', h2⟩ := ih (i := i + 1) ha (hg' rfl) h1
      refine ⟨R', ?_⟩
      have e : vs ++ (v :: vs').toArray = vs.push v ++ vs'.toArray := by apply Array.ext'; simp
      rw [e]; exact h2
    | io e t m =>
      obtain ⟨vs', b, cs, g1, g2, e1, e2, hr, ha⟩ := ha
      subst e1; subst e2
      have hi' := hi.perm (hand' := g2 ++ ((b, .cells cs.toArray e) :: g1)) (by
        rw [← List.cons_append]; exact List.perm_append_comm)
      have h1 := hi'.lay (i * 16) (b := { mem := some e, t := t, m := m, x := x.1, pin := some b }) (rb := ⟨b, cs, g1⟩) hr rfl
      have h1 := h1.push (s := .ptr (i * 16) []) (v := .pointer (some ⟨b, 0, none⟩)) (ptr_ok (b := { mem := some e, t := t, m := m, x := x.1, pin := some b }) (rb := ⟨b, cs, g1⟩) rfl R)
      obtain ⟨R', h2⟩ := ih (i := i + 1) ha (hg' rfl) h1
      refine ⟨R', ?_⟩
      have e : vs ++ (Value.pointer (some ⟨b, 0, none⟩) :: vs').toArray = vs.push (.pointer (some ⟨b, 0, none⟩)) ++ vs'.toArray := by apply Array.ext'; simp
      rw [e]; exact h2
    | row t m =>
      obtain ⟨v, vs', cs, g1, g2, e1, e2, hp, hr, ha⟩ := ha
      subst e1; subst e2
      obtain ⟨R1, h1, hs, _, _, hag⟩ := gotR_ok (n := i) (o := 0) (hand := g2) (hi.perm List.perm_append_comm) hr (fun k c hk => by
        rw [Nat.zero_add]
        exact hg 0 v rfl k c (by rw [cellsV_pack hp hr]; exact hk))
      have h1 := h1.push (v := v) (.ofPack (t := t) hs hp hag)
      obtain ⟨R', h2⟩ := ih (i := i + 1) ha (hg' rfl) h1
      refine ⟨R', ?_⟩
      have e : vs ++ (v :: vs').toArray = vs.push v ++ vs'.toArray := by apply Array.ext'; simp
      rw [e]; exact h2
    | lk t =>
      obtain ⟨v, vs', e, ⟨b, o, c, el, fz, e1, e2, e3, e4⟩, ha⟩ := ha
      subst e
      have h1 := hi.push (s := .pro t x.1) (v := v) (.ofCell ⟨b, o, c, el, fz, by rw [e1], e2, e3, e4⟩ rfl)
      obtain ⟨R', h2⟩ := ih (i := i + 1) ha (hg' rfl) h1
      refine ⟨R', ?_⟩
      have e : vs ++ (v :: vs').toArray = vs.push v ++ vs'.toArray := by apply Array.ext'; simp
      rw [e]; exact h2
    | nil =>
      obtain ⟨vs', e, ha⟩ := ha
      subst e
      have h1 := hi.push (s := .raw (.slice none 0 0)) (v := .slice none 0 0) (.ofCell (by simp [SVX, Value.cells]) rfl)
      obtain ⟨R', h2⟩ := ih (i := i + 1) ha (hg' rfl) h1
      refine ⟨R', ?_⟩
      have e : vs ++ (Value.slice none 0 0 :: vs').toArray = vs.push (.slice none 0 0) ++ vs'.toArray := by apply Array.ext'; simp
      rw [e]; exact h2
    | fn f ts =>
      obtain ⟨vs', caps, e, hc, ha⟩ := ha
      subst e
      have h1 := hi.push (s := .fn f (capSV ts x.1)) (v := .func (.func f) #[] caps) (.ofCell ⟨caps, rfl, capSV_ok hc⟩ rfl)
      obtain ⟨R', h2⟩ := ih (i := i + 1) ha (hg' rfl) h1
      refine ⟨R', ?_⟩
      have e : vs ++ (Value.func (.func f) #[] caps :: vs').toArray = vs.push (.func (.func f) #[] caps) ++ vs'.toArray := by apply Array.ext'; simp
      rw [e]; exact h2
def rvRun (tmps : Array Value) : ResultVar → Sem Value
  | .tmp t => pure (tmps.getD t Go.undef)
  | .cell a t => do loadVar t (← asAddr (tmps.getD a Go.undef))
theorem rv_some (hE : EnvOk P E) (h : Inv G st vs w Im R hand) {rv : ResultVar} {K : SV → Option T} (hk : rvS E st rv K = some r0) : ∃ s v, K s = some r0 ∧ (rvRun vs rv).run P w = .ok v w ∧ SVV w Im R s v := by
  cases rv with
  | tmp i => exact ⟨_, _, hk, rfl, h.slots i⟩
  | cell i t =>
    simp only [rvS] at hk
    split at hk
    · rename_i te ht
      obtain ⟨s, z, k1, k2, k3⟩ := load_some hE h ht hk (h.slots i)
      refine ⟨s, z, k1, ?_, k3⟩
      show (do loadVar t (← asAddr (vs.getD i Go.undef)) : Sem Value).run P w = _
      generalize vs.getD i Go.undef = v at k2 ⊢
      cases v with
      | pointer p =>
        cases p with
        | none => simp [Instr.loadAt, Instr.sureAddr] at k2
        | some ad => simpa [Instr.loadAt, Instr.sureAddr, asAddr] using k2
      | _ => simp [Instr.loadAt, Instr.sureAddr] at k2
    · cases hk
theorem end_some (hE : EnvOk P E) : ∀ {rvs : List ResultVar} {rs : List (Ty × Md)} {st : St} {Im : Nat → Prop} {R : Real} {hand : Frag} {K : ResT rs → St → Option T}, endS E rvs rs st K = some r0 → Inv G st vs w Im R hand →
    ∃ y st' Im' R' h1 us, K y st' = some r0 ∧ Inv G st' vs w Im' R' (hand ++ h1) ∧ Grow w w Im Im' ∧ ResOk w Im' rs y us h1 ∧ (rvs.mapM (rvRun vs)).run P w = .ok us w := by
  intro rvs
  induction rvs with
  | nil =>
    intro rs st Im R hand K hk h
    cases rs with
    | nil => exact ⟨(), st, Im, R, [], [], hk, by rw [List.append_nil]; exact h, Grow.refl _ _, ⟨rfl, rfl⟩, rfl⟩
    | cons p rs => simp [endS] at hk
  | cons rv rvs ih =>
    intro rs st Im R hand K hk h
    cases rs with
    | nil => simp [endS] at hk
    | cons p rs =>
      obtain ⟨t, m⟩ := p
      simp only [endS] at hk
      obtain ⟨s, v, hk, hrun, hs⟩ := rv_some hE h hk
      split at hk
      · rename_i ha
        obtain ⟨cs, x, m', st1, Im1, R1, h1, e1, e2, hk, hi, hrep, g, hsv, _⟩ := toC_cv hk h (CV.of hs)
        split at hk
        · rename_i hm
          obtain ⟨y, st', Im', R', h2, us, k1, k2, k3, k4, k5⟩ := ih hk hi
          refine ⟨(x, y), st', Im', R', h1 ++ h2, v :: us, k1, by rw [← List.append_assoc]; exact k2, g.trans k3, ⟨v, us, cs, h1, h2, rfl, rfl, pack_of e1 ha, (hrep.same hm).grow k3, k4⟩, ?_⟩
          simp [List.mapM_cons, hrun, k5]
        · cases hk
      · cases hk
theorem takeR_some (h : Inv G st vs w Im R hand) {n : Nat} : ∀ {t : Ty} {m : Md} {o : Nat} {K : RowT t m → Option T} {cs : List Value}, cs.length = sz t → (∀ k c, cs[k]? = some c → G.hd n (o + k) = c) → takeR n st.boxes t m o K = some r0 →
    ∃ x ids, K x = some r0 ∧ BackOk w Im t m x cs (ioFrag R ids) ∧ noDup ids = true ∧ (∀ j ∈ ids, n * 16 + o ≤ j ∧ j < n * 16 + o + sz t) := by
  intro t
  induction t with
  | pair a b iha ihb =>
    intro m o K cs hl hg hk
    simp only [takeR] at hk
    simp only [sz] at hl
    obtain ⟨x, i, hk, b1, n1, q1⟩ := iha (o := o) (cs := cs.take (sz a)) (by rw [List.length_take, hl]; omega) (fun k c hkc => hg k c (by
      have hlt : k < (cs.take (sz a)).length := (List.getElem?_eq_some_iff.1 hkc).1
      rw [List.length_take] at hlt
      rwa [List.getElem?_take_of_lt (by omega)] at hkc)) hk
    obtain ⟨y, j, hk, b2, n2, q2⟩ := ihb (o := o + sz a) (cs := cs.drop (sz a)) (by rw [List.length_drop, hl]; omega) (fun k c hkc => by
      rw [List.getElem?_drop] at hkc
      rw [← hg _ c hkc]; congr 1; omega) hk
    refine ⟨(x, y), i ++ j, hk, ⟨_, _, _, _, (List.take_append_drop (sz a) cs).symm, by rw [List.length_take, hl]; omega, ioFrag_append R i j, b1, b2⟩, nodup_noDup (List.nodup_append.2 ⟨noDup_nodup n1, noDup_nodup n2, fun a' ha' b' hb' e => ?_⟩), fun k hk => ?_⟩
    · have h1 := q1 a' ha'
      have h2 := q2 b' hb'
      omega
    · simp only [sz]
      rcases List.mem_append.1 hk with hk | hk
      · have := q1 k hk; omega
      · have := q2 k hk; omega
  | slc t ih =>
    intro m o K cs hl hg hk
    cases m with
    | own m =>
      simp only [takeR] at hk
      split at hk
      · rename_i b hb
        split at hk
        · rename_i hmem
          split at hk
          · rename_i hty
            split at hk
            · rename_i hm
              obtain ⟨rb, hrr⟩ := h.real hb
              obtain ⟨c, rfl⟩ : ∃ c, cs = [c] := by
                simp [sz] at hl
                match cs, hl with
                | [c], _ => exact ⟨c, rfl⟩
              have hcs : rb.cs = [c] := by
                rw [(h.row _ b rb hrr _ hmem.2).1 hmem.1, ← hg 0 c rfl]; rfl
              refine ⟨(hty ▸ b.x : den (.slc t)), [n * 16 + o], hk, ?_, rfl, fun j hj => by simp only [List.mem_singleton] at hj; subst hj; simp [sz]⟩
              have := ((h.rep _ b rb hrr).cast hty).same hm
              rw [hcs] at this
              have hf : own R [] (n * 16 + o + 1) = rb.h := by rw [own_at hrr]; unfold fragOf; rw [hmem.1]
              simp only [ioFrag, List.append_nil]
              rw [hf]; exact this
            · cases hk
          · cases hk
        · cases hk
      · cases hk
    | _ => exact ⟨(), [], hk, rfl, rfl, fun j hj => by simp at hj⟩
  | mp kt vt ihk ihv =>
    intro m o K cs hl hg hk
    cases m with
    | own m =>
      simp only [takeR] at hk
      split at hk
      · rename_i b hb
        split at hk
        · rename_i hmem
          split at hk
          · rename_i hty
            split at hk
            · rename_i hm
              obtain ⟨rb, hrr⟩ := h.real hb
              obtain ⟨c, rfl⟩ : ∃ c, cs = [c] := by
                simp [sz] at hl
                match cs, hl with
                | [c], _ => exact ⟨c, rfl⟩
              have hcs : rb.cs = [c] := by
                rw [(h.row _ b rb hrr _ hmem.2).1 hmem.1, ← hg 0 c rfl]; rfl
              refine ⟨(hty ▸ b.x : den (.mp kt vt)), [n * 16 + o], hk, ?_, rfl, fun j hj => by simp only [List.mem_singleton] at hj; subst hj; simp [sz]⟩
              have := ((h.rep _ b rb hrr).cast hty).same hm
              rw [hcs] at this
              have hf : own R [] (n * 16 + o + 1) = rb.h := by rw [own_at hrr]; unfold fragOf; rw [hmem.1]
              simp only [ioFrag, List.append_nil]
              rw [hf]; exact this
            · cases hk
          · cases hk
        · cases hk
      · cases hk
    | _ => exact ⟨(), [], hk, rfl, rfl, fun j hj => by simp at hj⟩
  | _ =>
    intro m o K cs hl hg hk
    cases m <;> exact ⟨(), [], hk, rfl, rfl, fun j hj => by simp at hj⟩
theorem out_some (h : Inv G st vs w Im R hand) : ∀ {ps : List PK} {i : Nat} {K : OutT ps → List (Option Nat) → Option T} {us : List Value} {x : ArgT ps} {w0 : World} {Im0 : Nat → Prop} {h0 : Frag}, ioOut ps i st.boxes K = some r0 → ArgsOk w0 Im0 ps x us h0 → (∀ j v, us[j]? = some v → ∀ k c, (cellsV v)[k]? = some c → G.hd (i + j) k = c) →
    ∃ z l ids, K z l = some r0 ∧ (l = (ksOf ps us).map some → OutsOk w Im ps z us (ioFrag R ids)) ∧ noDup ids = true ∧ (∀ j ∈ ids, i * 16 ≤ j) := by
  intro ps
  induction ps with
  | nil => intro i K us x w0 Im0 h0 hk ha hg; exact ⟨(), [], [], hk, fun _ => rfl, rfl, fun j hj => by simp at hj⟩
  | cons pk ps ih =>
    intro i K us x w0 Im0 h0 hk ha hg
    have hg' : ∀ {v : Value} {vs' : List Value}, us = v :: vs' → ∀ j u, vs'[j]? = some u → ∀ k c, (cellsV u)[k]? = some c → G.hd (i + 1 + j) k = c := by
      intro v vs' e j u hu
      have := hg (j + 1) u (by rw [e]; simpa using hu)
      rwa [show i + (j + 1) = i + 1 + j by omega] at this
    cases pk with
    | ro t =>
      obtain ⟨v, vs', cs, e, hp, hr, ha⟩ := ha
      subst e
      obtain ⟨z, l, ids, k1, k2, k3, k4⟩ := ih (i := i + 1) hk ha (hg' rfl)
      exact ⟨z, l, ids, k1, fun hl => ⟨v, vs', rfl, k2 hl⟩, k3, fun j hj => by have := k4 j hj; omega⟩
    | mv t m =>
      obtain ⟨v, vs', cs, g1, g2, e, e2, hp, hr, ha⟩ := ha
      subst e
      obtain ⟨z, l, ids, k1, k2, k3, k4⟩ := ih (i := i + 1) hk ha (hg' rfl)
      exact ⟨z, l, ids, k1, fun hl => ⟨v, vs', rfl, k2 hl⟩, k3, fun j hj => by have := k4 j hj; omega⟩
    | lk t =>
      obtain ⟨v, vs', e, _, ha⟩ := ha
      subst e
      obtain ⟨z, l, ids, k1, k2, k3, k4⟩ := ih (i := i + 1) hk ha (hg' rfl)
      exact ⟨z, l, ids, k1, fun hl => ⟨v, vs', rfl, k2 hl⟩, k3, fun j hj => by have := k4 j hj; omega⟩
    | nil =>
      obtain ⟨vs', e, ha⟩ := ha
      subst e
      obtain ⟨z, l, ids, k1, k2, k3, k4⟩ := ih (i := i + 1) hk ha (hg' rfl)
      exact ⟨z, l, ids, k1, fun hl => ⟨_, vs', rfl, k2 hl⟩, k3, fun j hj => by have := k4 j hj; omega⟩
    | fn f ts =>
      obtain ⟨vs', caps, e, hc, ha⟩ := ha
      subst e
      obtain ⟨z, l, ids, k1, k2, k3, k4⟩ := ih (i := i + 1) hk ha (hg' rfl)
      exact ⟨z, l, ids, k1, fun hl => ⟨_, vs', rfl, k2 hl⟩, k3, fun j hj => by have := k4 j hj; omega⟩
    | io e t m =>
      obtain ⟨vs', b0, cs, g1, g2, e1, e2, hr, ha⟩ := ha
      subst e1
      simp only [ioOut] at hk
      split at hk
      · rename_i b hb
        split at hk
        · rename_i hmem
          split at hk
          · rename_i hty
            split at hk
            · rename_i hm
              obtain ⟨z, l, ids, k1, k2, k3, k4⟩ := ih (i := i + 1) hk ha (hg' rfl)
              obtain ⟨rb, hrr⟩ := h.real hb
              have hne : i * 16 ∉ ids := fun hj => by have := k4 _ hj; omega
              refine ⟨(hty ▸ b.x, z), b.pin :: l, i * 16 :: ids, k1, fun hl => ?_, ?_, fun j hj => ?_⟩
              · simp only [ksOf, List.map_cons, List.cons.injEq] at hl
                obtain ⟨hpin, hl⟩ := hl
                have hblk : blkOf b rb = b0 := by unfold blkOf; rw [hpin]; rfl
                refine ⟨b0, vs', rb.cs, rb.h, ioFrag R ids, rfl, ?_, ((h.rep _ b rb hrr).cast hty).same hm, k2 hl⟩
                simp only [ioFrag]
                rw [own_at hrr]
                unfold fragOf
                rw [hmem, hblk]; rfl
              · simp only [noDup, k3, Bool.and_true, Bool.not_eq_true']
                cases hc : ids.contains (i * 16) with
                | true => exact absurd (List.contains_iff_mem.1 hc) hne
                | false => rfl
              · rcases List.mem_cons.1 hj with hj | hj
                · omega
                · have := k4 j hj; omega
            · cases hk
          · cases hk
        · cases hk
      · cases hk
    | row t m =>
      obtain ⟨v, vs', cs, g1, g2, e1, e2, hp, hr, ha⟩ := ha
      subst e1
      simp only [ioOut] at hk
      split at hk
      · rename_i h16
        obtain ⟨x0, ids0, hk, hb0, hnd0, hin0⟩ := takeR_some (n := i) (o := 0) h hr.len (fun k c hkc => by
          rw [Nat.zero_add]
          exact hg 0 v rfl k c (by rw [cellsV_pack hp hr]; exact hkc)) hk
        obtain ⟨z, l, ids, k1, k2, k3, k4⟩ := ih (i := i + 1) hk ha (hg' rfl)
        refine ⟨(x0, z), l, ids0 ++ ids, k1, fun hl => ⟨v, vs', cs, _, _, rfl, ioFrag_append R ids0 ids, hp, hb0, k2 hl⟩, nodup_noDup (List.nodup_append.2 ⟨noDup_nodup hnd0, noDup_nodup k3, fun a ha b hb e => ?_⟩), fun j hj => ?_⟩
        · have h1 := hin0 a ha
          have h2 := k4 b hb
          omega
        · rcases List.mem_append.1 hj with hj | hj
          · have := hin0 j hj; omega
          · have := k4 j hj; omega
      · cases hk
theorem run_results {fn : Func} {tmps : Array Value} {us : List Value} (h : (fn.results.toList.mapM (rvRun tmps)).run P w = .ok us w) : (results fn tmps).run P w = .ok (valOf us) w := by
  have h1 : (fn.results.mapM (rvRun tmps)).run P w = .ok us.toArray w := by
    rw [Array.mapM_eq_mapM_toList]
    simp [h]
  have h2 : results fn tmps = (do let vs ← fn.results.mapM (rvRun tmps); pure (if h : vs.size = 1 then vs[0] else .tuple vs)) := rfl
  rw [h2, Sem.run_bind, h1]
  show Result.ok _ w = _
  congr 1
  match us with
  | [] => rfl
  | [u] => rfl
  | u :: v :: us =>
    have : ¬ ((u :: v :: us).toArray.size = 1) := by simp
    rw [dif_neg this]; rfl
theorem leafOf_some : ∀ {t : Ty} {m : Md} {o0 o : Nat} {cs : List Value}, cs.length = sz t → cntM t m = 1 → leafAt t m o0 = some o → ∃ et c, leafOf t m cs = some (et, c) ∧ cs[o - o0]? = some c ∧ o0 ≤ o ∧ leafTy t m = some et := by
  intro t
  induction t with
  | pair a b iha ihb =>
    intro m o0 o cs hl hc ho
    simp only [leafAt] at ho
    simp only [sz] at hl
    simp only [leafOf, leafTy]
    split at ho
    · rename_i h1
      obtain ⟨et, c, q1, q2, q3, q4⟩ := iha (cs := cs.take (sz a)) (by rw [List.length_take, hl]; omega) h1 ho
      refine ⟨et, c, by rw [if_pos h1]; exact q1, ?_, q3, by rw [if_pos h1]; exact q4⟩
      have hlt := (List.getElem?_eq_some_iff.1 q2).1
      rw [List.length_take] at hlt
      rwa [List.getElem?_take_of_lt (by omega)] at q2
    · rename_i h1
      simp only [cntM] at hc
      obtain ⟨et, c, q1, q2, q3, q4⟩ := ihb (cs := cs.drop (sz a)) (by rw [List.length_drop, hl]; omega) (by omega) ho
      refine ⟨et, c, by rw [if_neg h1]; exact q1, ?_, by omega, by rw [if_neg h1]; exact q4⟩
      rw [List.getElem?_drop] at q2
      rw [← q2]; congr 1; omega
  | slc t ih =>
    intro m o0 o cs hl hc ho
    cases m <;> simp only [leafAt, reduceCtorEq, Option.some.injEq] at ho
    subst ho
    simp [sz] at hl
    match cs, hl with
    | [c], _ => exact ⟨.slc t, c, rfl, by simp, Nat.le_refl _, rfl⟩
  | mp k v ihk ihv =>
    intro m o0 o cs hl hc ho
    cases m <;> simp only [leafAt, reduceCtorEq, Option.some.injEq] at ho
    subst ho
    simp [sz] at hl
    match cs, hl with
    | [c], _ => exact ⟨.mp k v, c, rfl, by simp, Nat.le_refl _, rfl⟩
  | _ => intro m o0 o cs hl hc ho; cases m <;> simp [leafAt] at ho
theorem args_row {ps ps' : List PK} {t : Ty} {m : Md} (eps : ps = .row t m :: ps') {x : ArgT ps} {us : List Value} {w0 : World} {Im0 : Nat → Prop} {h0 : Frag} (ha : ArgsOk w0 Im0 ps x us h0) :
    ∃ v vs' cs, us = v :: vs' ∧ pack t cs v ∧ cs.length = sz t ∧ cellsV v = cs := by
  subst eps
  obtain ⟨v, vs', cs, g1, g2, e1, e2, hp, hrep, ha⟩ := ha
  exact ⟨v, vs', cs, e1, hp, hrep.len, cellsV_pack hp hrep⟩
theorem home_valid : ∀ {t : Ty} {m : Md} (x : den t) (m' : Md), cntM t m = 1 → Valid t x m' (homePath t m) ∧ lev (homePath t m) = 0 := by
  intro t
  induction t with
  | pair a b iha ihb =>
    intro m x m' hc
    simp only [homePath]
    split
    · rename_i h1
      obtain ⟨q1, q2⟩ := iha (m := m.fst) x.1 (m'.step .fst) h1
      exact ⟨⟨trivial, q1⟩, by simpa [lev] using q2⟩
    · rename_i h1
      simp only [cntM] at hc
      obtain ⟨q1, q2⟩ := ihb (m := m.snd) x.2 (m'.step .snd) (by omega)
      exact ⟨⟨trivial, q1⟩, by simpa [lev] using q2⟩
  | _ => intro m x m' hc; exact ⟨trivial, rfl⟩
theorem home_nav {w : World} : ∀ {t : Ty} {m : Md} {o0 o : Nat} {cs : List Value} {ad ad' : Option (Nat × Nat)} {v : Value}, leafAt t m o0 = some o → nav w t cs ad (homePath t m) = some ([v], ad') → o0 ≤ o ∧ cs[o - o0]? = some v ∧ o ∈ rowOffs t o0 := by
  intro t
  induction t with
  | pair a b iha ihb =>
    intro m o0 o cs ad ad' v hl hn
    simp only [leafAt] at hl
    simp only [homePath] at hn
    split at hl
    · rename_i h1
      rw [if_pos h1] at hn
      simp only [nav, navStep] at hn
      obtain ⟨q1, q2, q3⟩ := iha hl hn
      refine ⟨q1, ?_, by simp [rowOffs, q3]⟩
      have hlt := (List.getElem?_eq_some_iff.1 q2).1
      rw [List.length_take] at hlt
      rwa [List.getElem?_take_of_lt (by omega)] at q2
    · rename_i h1
      rw [if_neg h1] at hn
      simp only [nav, navStep] at hn
      obtain ⟨q1, q2, q3⟩ := ihb hl hn
      refine ⟨by omega, ?_, by simp [rowOffs, q3]⟩
      rw [List.getElem?_drop] at q2
      rw [← q2]; congr 1; omega
  | slc t ih =>
    intro m o0 o cs ad ad' v hl hn
    cases m <;> simp only [leafAt, reduceCtorEq, Option.some.injEq] at hl
    subst hl
    simp only [homePath, nav, Option.some.injEq, Prod.mk.injEq] at hn
    rw [hn.1]
    exact ⟨Nat.le_refl _, by simp, by simp [rowOffs]⟩
  | mp k v ihk ihv =>
    intro m o0 o cs ad ad' v hl hn
    cases m <;> simp only [leafAt, reduceCtorEq, Option.some.injEq] at hl
    subst hl
    simp only [homePath, nav, Option.some.injEq, Prod.mk.injEq] at hn
    rw [hn.1]
    exact ⟨Nat.le_refl _, by simp, by simp [rowOffs]⟩
  | _ => intro m o0 o cs ad ad' v hl; cases m <;> simp [leafAt] at hl
theorem home1_ok (h : Inv G st vs w Im R hand) (n : Nat) (t : Ty) (m : Md) : ∃ R', Inv G (home1 n t m st) vs w Im R' hand := by
  unfold home1
  split
  · rename_i r o hr ho
    split
    · rename_i b hb
      split
      · rename_i hc
        obtain ⟨c1, c2, c3, c4, c5, c6⟩ := hc
        subst c3
        obtain ⟨rb, hrr⟩ := h.real hb
        have hval := home_valid (m := m) b.x b.m c4
        have hv : Valid b.t b.x b.m (homePath b.t m) := hval.1
        obtain ⟨cs, ad, g1, n1, n2, _⟩ := h.at_ hrr hv
        have hsz : cs.length = 1 := by
          rw [n2.len]
          revert c5
          cases ctype b.t (homePath b.t m) <;> simp [isHd, sz]
        obtain ⟨v, rfl⟩ : ∃ v, cs = [v] := by
          match cs, hsz with
          | [v], _ => exact ⟨v, rfl⟩
        obtain ⟨m0, hm0⟩ : ∃ m0, mget b.m (homePath b.t m) = .own m0 := by
          generalize mget b.m (homePath b.t m) = mm at c6
          cases mm <;> simp [isOwnB] at c6
          exact ⟨_, rfl⟩
        have href : RefOK w R r (homePath b.t m) v := fun b2 rb2 h2 => by
          rw [hrr] at h2; cases h2
          exact ⟨hv, c5, ad, n1⟩
        obtain ⟨R', h1, hi, hrep, _⟩ := h.take hb href hval.2 c5 hm0
        have hmem : b.mem ≠ none := by intro e; rw [e] at c1; cases c1
        obtain ⟨_, q2, q3⟩ := home_nav (t := b.t) (m := m) (o0 := 0) (o := o) (cs := rb.cs) (w := w) (v := v) ho n1
        have hhd := (h.row r b rb hrr _ c2).2 hmem o q3 v (by simpa using q2)
        exact ⟨_, hi.lay (n * 16 + o) (b := { mem := none, t := ctype b.t (homePath b.t m), m := mget b.m (homePath b.t m), x := cget b.t b.x (homePath b.t m), row := some (n, o) }) (rb := ⟨0, [v], h1⟩) hrep rfl (fun k hk => by
          cases hk
          refine ⟨fun _ => ?_, fun hm => absurd rfl hm⟩
          show [v] = [G.hd n o]
          rw [← hhd, Nat.zero_add])⟩
      · exact ⟨R, h⟩
    · exact ⟨R, h⟩
  · exact ⟨R, h⟩
theorem part_home (h : Inv G st vs w Im R hand) {ps : List PK} {r : Nat} {q : Path} {j : Nat} (hp : partAt ps st.boxes r q = some j) :
    ∃ t m ps' o p b rb ad, ps = .row t m :: ps' ∧ cntM t m = 1 ∧ leafAt t m 0 = some o ∧ q = p ++ [.idx j] ∧ R r = some (b, rb) ∧ leafTy t m = some (ctype b.t p) ∧
      ((∀ u ad', nav w b.t rb.cs (locOf b rb) q = some ([u], ad') → nav w b.t rb.cs (locOf b rb) p = some ([G.hd 0 o], ad))) := by
  unfold partAt at hp
  split at hp
  case h_2 => cases hp
  rename_i t m ps'
  split at hp
  case h_2 => cases hp
  rename_i j' p hq
  split at hp
  case h_2 => cases hp
  rename_i b o hb ho
  split at hp
  case isFalse => cases hp
  rename_i hc
  cases hp
  obtain ⟨c1, c2, c3⟩ := hc
  obtain ⟨rb, hrr⟩ := h.real hb
  have eq : q = p.reverse ++ [.idx j] := by
    have := congrArg List.reverse hq
    simpa using this
  rcases c3 with ⟨d1, d2, d3⟩ | ⟨d1, d2, d3, d4⟩
  · refine ⟨t, m, ps', o, p.reverse, b, rb, locOf b rb, rfl, c1, ho, eq, hrr, c2, fun u ad' hn => ?_⟩
    rw [d3]
    simp only [nav]
    rw [(h.row r b rb hrr _ d2).1 d1]
  · subst d3
    have hmem : b.mem ≠ none := by intro e; rw [e] at d1; cases d1
    obtain ⟨hv, h0⟩ := home_valid (m := m) b.x b.m c1
    obtain ⟨cs, ad, g1, n1, n2, _⟩ := h.at_ hrr hv
    refine ⟨b.t, m, ps', o, p.reverse, b, rb, ad, rfl, c1, ho, eq, hrr, c2, fun u ad' hn => ?_⟩
    rw [d4]
    have hsz : cs.length = 1 := by
      rw [n2.len]
      rw [d4] at c2
      revert c2
      generalize ctype b.t (homePath b.t m) = tt
      intro c2
      exact leafTy_sz c2
    obtain ⟨v, rfl⟩ : ∃ v, cs = [v] := by
      match cs, hsz with
      | [v], _ => exact ⟨v, rfl⟩
    obtain ⟨_, q2, q3⟩ := home_nav (t := b.t) (m := m) (o0 := 0) (o := o) (cs := rb.cs) (w := w) (v := v) ho n1
    have hhd := (h.row r b rb hrr _ d2).2 hmem o q3 v (by simpa using q2)
    rw [n1, ← hhd, Nat.zero_add]
where
  leafTy_sz : ∀ {t : Ty} {m : Md} {tt : Ty}, leafTy t m = some tt → sz tt = 1 := by
    intro t
    induction t with
    | pair a b iha ihb =>
      intro m tt h
      simp only [leafTy] at h
      split at h
      · exact iha h
      · exact ihb h
    | slc t ih => intro m tt h; cases m <;> simp only [leafTy, reduceCtorEq, Option.some.injEq] at h; subst h; rfl
    | mp k v ihk ihv => intro m tt h; cases m <;> simp only [leafTy, reduceCtorEq, Option.some.injEq] at h; subst h; rfl
    | _ => intro m tt h; cases m <;> simp [leafTy] at h
theorem homes_ok : ∀ (ps : List PK) (i : Nat) {st : St} {R : Real}, Inv G st vs w Im R hand → ∃ R', Inv G (homes ps i st) vs w Im R' hand
  | [], _, _, R, h => ⟨R, h⟩
  | .row t m :: ps, i, st, R, h => by
    obtain ⟨R', h'⟩ := home1_ok h i t m
    exact homes_ok ps (i + 1) h'
  | .io _ _ _ :: ps, i, _, _, h => homes_ok ps (i + 1) h
  | .ro _ :: ps, i, _, _, h => homes_ok ps (i + 1) h
  | .mv _ _ :: ps, i, _, _, h => homes_ok ps (i + 1) h
  | .fn _ _ :: ps, i, _, _, h => homes_ok ps (i + 1) h
  | .nil :: ps, i, _, _, h => homes_ok ps (i + 1) h
  | .lk _ :: ps, i, _, _, h => homes_ok ps (i + 1) h
theorem sum_ok {c : Fx} (hm : P.follows .mixedOrders = true) (hE : EnvOk P c.E) (hC : ∀ G I0, CallOk P c.toCx G I0) {f : FuncId} {fn : Func} {code : Code} (hf : P.funcs[f]? = some fn) (hb : fn.body = some code) (hL : ∀ b ∈ loops code, ∀ nd, nget c.nodes true (head b) = some nd → LoopOk c b nd) (hT : ∀ b ∈ tails code, ∀ nd, nget c.nodes false (head b) = some nd → TailOk c b nd) {sm : Sm} (hp : sm.part = false)
    (hF : ∀ (ks : List Nat) (x : ArgT sm.ps) (r : ResT sm.rs × OutT sm.ps), ks.length = ioN sm.ps → sm.F x = some r → codeS c code (start sm.ps ks x fn.ntmps) (finK c.E fn.results.toList sm.ps sm.rs) = some (r, ks.map some)) : SmOk P f sm := by
  intro w Im us x h r himlt hargs hheap hnod hdis hr
  have hi : Inv ⟨w, keys h, Im, fun i k => (cellsV (us.getD i (.bool false))).getD k (.bool false)⟩ ⟨[], []⟩ #[] w Im (fun _ => none) h := by
    refine ⟨fun i => rfl, fun i b r hb => (by cases hb), ⟨fun i => ?_, fun i j hij k hi hj => ?_, fun i p hp => ?_, fun i k hk => ?_, fun i k hk => ?_, himlt, fun k hk => .inl hk⟩, fun n => .inl rfl, rfl, ⟨rfl, rfl, rfl, Nat.le_refl _, fun _ _ _ => rfl⟩, fun i b r hb => (by cases hb)⟩
    · cases i with
      | zero => exact hnod
      | succ i => exact List.nodup_nil
    · cases i with
      | zero => cases j with
        | zero => exact hij rfl
        | succ j => simp [own, keys] at hj
      | succ i => simp [own, keys] at hi
    · cases i with
      | zero => exact hheap p hp
      | succ i => simp [own] at hp
    · cases i with
      | zero => exact hdis k hk
      | succ i => simp [own, keys] at hk
    · cases i with
      | zero => exact .inr hk
      | succ i => simp [own, keys] at hk
  have hgd : ∀ j v, us[j]? = some v → ∀ k c, (cellsV v)[k]? = some c → (⟨w, keys h, Im, fun i k => (cellsV (us.getD i (.bool false))).getD k (.bool false)⟩ : Gl).hd (0 + j) k = c := fun j v hv k c hc => by
    show (cellsV (us.getD (0 + j) _)).getD k _ = c
    have e : us.getD (0 + j) (.bool false) = v := by rw [Nat.zero_add, List.getD_eq_getElem?_getD, hv]; rfl
    rw [e, List.getD_eq_getElem?_getD, hc]; rfl
  obtain ⟨R1, h1⟩ := entry_ok (i := 0) hargs hgd hi
  have h2 := h1.pad fn.ntmps
  have e0 : (#[] : Array Value) ++ us.toArray = us.toArray := by simp
  rw [e0] at h2
  have hok : Ok ⟨w, keys h, Im, fun i k => (cellsV (us.getD i (.bool false))).getD k (.bool false)⟩ Im (start sm.ps (ksOf sm.ps us) x fn.ntmps) { tmps := us.toArray ++ Array.replicate (fn.ntmps - us.toArray.size) Go.undef, defers := [] } w := ⟨rfl, Im, R1, fun _ h => h, h2⟩
  refine calls_of_wp hf hb (wp_mono (code_some hm hE (hC ⟨w, keys h, Im, fun i k => (cellsV (us.getD i (.bool false))).getD k (.bool false)⟩ Im) code hL hT (hF _ x r (ksOf_len hargs) hr) hok) fun e a w' hq => ?_)
  have done : Post ⟨w, keys h, Im, fun i k => (cellsV (us.getD i (.bool false))).getD k (.bool false)⟩ Im (fin c.E fn.results.toList sm.ps sm.rs) (r, (ksOf sm.ps us).map some) a w' → a.defers = [] ∧ ∃ v, (results fn a.tmps).run P w' = .ok v w' ∧
      ∃ us2 ImN h1 h2, Ending.returned v = .returned (valOf us2) ∧ GiveOk w' ImN sm r.1 us us2 h1 ∧ OutsOk w' ImN sm.ps r.2 us h2 ∧ HeapOK w' (h1 ++ h2) ∧ (keys (h1 ++ h2)).Nodup ∧
      (∀ k ∈ keys (h1 ++ h2), ¬ ImN k ∧ (w.heap.size ≤ k ∨ k ∈ keys h)) ∧ Grow w w' Im ImN ∧ (∀ k, ImN k → k < w'.heap.size ∧ (Im k ∨ w.heap.size ≤ k ∨ k ∈ keys h)) ∧ Keep ⟨w, keys h, Im, fun _ _ => .bool false⟩ w' := by
    rintro ⟨st', hk, hd, Im1, R2, hI, hi1⟩
    refine ⟨hd, ?_⟩
    unfold fin at hk
    obtain ⟨y, st2, Im2, R3, g1, us2, k1, k2, k3, k4, k5⟩ := end_some hE hk hi1
    have k2 : Inv ⟨w, keys h, Im, fun i k => (cellsV (us.getD i (.bool false))).getD k (.bool false)⟩ st2 a.tmps w' Im2 R3 g1 := k2
    obtain ⟨R3, k2⟩ := homes_ok sm.ps 0 k2
    obtain ⟨z, l, ids, k6, k7, k8, _⟩ := out_some k2 k1 hargs hgd
    simp only [Option.some.injEq, Prod.mk.injEq] at k6
    obtain ⟨e1, e2⟩ := k6
    subst e1; subst e2
    have k9 := k7 rfl
    have hmem : ∀ k ∈ keys (g1 ++ ioFrag R3 ids), ∃ i, k ∈ keys (own R3 g1 i) := fun k hk => by
      rw [keys_append] at hk
      rcases List.mem_append.1 hk with hk | hk
      · exact ⟨0, hk⟩
      · obtain ⟨r, _, hk⟩ := mem_ioFrag.1 hk
        exact ⟨r + 1, hk⟩
    refine ⟨valOf us2, run_results k5, us2, Im2, g1, ioFrag R3 ids, rfl, .inl ⟨hp, k4⟩, k9, fun p hp => ?_, ?_, fun k hk => ?_, ⟨fun k hk => k3.im k (hI k hk), fun k hk => ?_⟩, fun k hk => ⟨k2.sep.imlt k hk, k2.sep.imok k hk⟩, ⟨k2.keep.os, k2.keep.tape, k2.keep.output, k2.keep.size, k2.keep.block⟩⟩
    · have : ∀ {l : List Nat}, p ∈ ioFrag R3 l → ∃ i, p ∈ own R3 g1 (i + 1) := by
        intro l
        induction l with
        | nil => intro h; simp [ioFrag] at h
        | cons r l ih =>
          intro h
          rcases List.mem_append.1 h with h | h
          · exact ⟨r, h⟩
          · exact ih h
      rcases List.mem_append.1 hp with hp | hp
      · exact k2.sep.heap 0 p hp
      · obtain ⟨i, hi⟩ := this hp; exact k2.sep.heap (i + 1) p hi
    · rw [keys_append]
      refine List.nodup_append.2 ⟨k2.sep.nod 0, ioFrag_nodup k2 k8, fun y hy z hz e => ?_⟩
      subst e
      obtain ⟨s, _, h2⟩ := mem_ioFrag.1 hz
      exact k2.sep.sep 0 (s + 1) (by simp) y hy h2
    · obtain ⟨i, hi⟩ := hmem k hk
      exact ⟨k2.sep.im i k hi, k2.sep.fresh i k hi⟩
    · exact k2.keep.block k (himlt k hk) (fun hm => hdis k hm hk)
  cases e with
  | normal => exact done hq
  | ret => exact done hq
  | exit id => obtain ⟨st', hk, _⟩ := hq; cases hk
  | _ => exact hq.elim
theorem sumP_ok {c : Fx} (hm : P.follows .mixedOrders = true) (hE : EnvOk P c.E) (hC : ∀ G I0, CallOk P c.toCx G I0) {f : FuncId} {fn : Func} {code : Code} (hf : P.funcs[f]? = some fn) (hb : fn.body = some code) (hL : ∀ b ∈ loops code, ∀ nd, nget c.nodes true (head b) = some nd → LoopOk c b nd) (hT : ∀ b ∈ tails code, ∀ nd, nget c.nodes false (head b) = some nd → TailOk c b nd) {sm : Sm} (hp : sm.part = true)
    (hF : ∀ (ks : List Nat) (x : ArgT sm.ps) (r : ResT sm.rs × OutT sm.ps), ks.length = ioN sm.ps → sm.F x = some r → codeS c code (start sm.ps ks x fn.ntmps) (finPK c.E fn.results.toList sm.ps sm.rs) = some (r, ks.map some)) : SmOk P f sm := by
  intro w Im us x h r himlt hargs hheap hnod hdis hr
  have hi : Inv ⟨w, keys h, Im, fun i k => (cellsV (us.getD i (.bool false))).getD k (.bool false)⟩ ⟨[], []⟩ #[] w Im (fun _ => none) h := by
    refine ⟨fun i => rfl, fun i b r hb => (by cases hb), ⟨fun i => ?_, fun i j hij k hi hj => ?_, fun i p hp => ?_, fun i k hk => ?_, fun i k hk => ?_, himlt, fun k hk => .inl hk⟩, fun n => .inl rfl, rfl, ⟨rfl, rfl, rfl, Nat.le_refl _, fun _ _ _ => rfl⟩, fun i b r hb => (by cases hb)⟩
    · cases i with
      | zero => exact hnod
      | succ i => exact List.nodup_nil
    · cases i with
      | zero => cases j with
        | zero => exact hij rfl
        | succ j => simp [own, keys] at hj
      | succ i => simp [own, keys] at hi
    · cases i with
      | zero => exact hheap p hp
      | succ i => simp [own] at hp
    · cases i with
      | zero => exact hdis k hk
      | succ i => simp [own, keys] at hk
    · cases i with
      | zero => exact .inr hk
      | succ i => simp [own, keys] at hk
  have hgd : ∀ j v, us[j]? = some v → ∀ k c, (cellsV v)[k]? = some c → (⟨w, keys h, Im, fun i k => (cellsV (us.getD i (.bool false))).getD k (.bool false)⟩ : Gl).hd (0 + j) k = c := fun j v hv k c hc => by
    show (cellsV (us.getD (0 + j) _)).getD k _ = c
    have e : us.getD (0 + j) (.bool false) = v := by rw [Nat.zero_add, List.getD_eq_getElem?_getD, hv]; rfl
    rw [e, List.getD_eq_getElem?_getD, hc]; rfl
  obtain ⟨R1, h1⟩ := entry_ok (i := 0) hargs hgd hi
  have h2 := h1.pad fn.ntmps
  have e0 : (#[] : Array Value) ++ us.toArray = us.toArray := by simp
  rw [e0] at h2
  have hok : Ok ⟨w, keys h, Im, fun i k => (cellsV (us.getD i (.bool false))).getD k (.bool false)⟩ Im (start sm.ps (ksOf sm.ps us) x fn.ntmps) { tmps := us.toArray ++ Array.replicate (fn.ntmps - us.toArray.size) Go.undef, defers := [] } w := ⟨rfl, Im, R1, fun _ h => h, h2⟩
  refine calls_of_wp hf hb (wp_mono (code_some hm hE (hC ⟨w, keys h, Im, fun i k => (cellsV (us.getD i (.bool false))).getD k (.bool false)⟩ Im) code hL hT (hF _ x r (ksOf_len hargs) hr) hok) fun e a w' hq => ?_)
  have done : Post ⟨w, keys h, Im, fun i k => (cellsV (us.getD i (.bool false))).getD k (.bool false)⟩ Im (finP c.E fn.results.toList sm.ps sm.rs) (r, (ksOf sm.ps us).map some) a w' → a.defers = [] ∧ ∃ v, (results fn a.tmps).run P w' = .ok v w' ∧
      ∃ us2 ImN h1 h2, Ending.returned v = .returned (valOf us2) ∧ GiveOk w' ImN sm r.1 us us2 h1 ∧ OutsOk w' ImN sm.ps r.2 us h2 ∧ HeapOK w' (h1 ++ h2) ∧ (keys (h1 ++ h2)).Nodup ∧
      (∀ k ∈ keys (h1 ++ h2), ¬ ImN k ∧ (w.heap.size ≤ k ∨ k ∈ keys h)) ∧ Grow w w' Im ImN ∧ (∀ k, ImN k → k < w'.heap.size ∧ (Im k ∨ w.heap.size ≤ k ∨ k ∈ keys h)) ∧ Keep ⟨w, keys h, Im, fun _ _ => .bool false⟩ w' := by
    rintro ⟨st', hk, hd, Im1, R2, hI, hi1⟩
    refine ⟨hd, ?_⟩
    unfold finP at hk
    split at hk
    case h_2 => cases hk
    rename_i rv hrv
    obtain ⟨s, v, hk, hrun, hsv⟩ := rv_some hE hi1 hk
    split at hk
    case h_2 => cases hk
    rename_i rr q lo n
    split at hk
    case h_2 => cases hk
    rename_i j hpart0
    obtain ⟨y, hy, hk⟩ := Option.bind_eq_some_iff.1 hk
    obtain ⟨R3, hi2⟩ := homes_ok sm.ps 0 hi1
    obtain ⟨z, l, ids, k6, k7, k8, _⟩ := out_some hi2 hk hargs hgd
    simp only [Option.some.injEq, Prod.mk.injEq] at k6
    obtain ⟨e1, e2⟩ := k6
    subst e1; subst e2
    have k9 := k7 rfl
    have hpart : PartOk w' sm.ps sm.rs y us v := by
      obtain ⟨t0, m0, ps', o, p, b, rb, ad0, eps, hcnt, hlat, eq, hrr, hlty, hnav⟩ := part_home hi1 hpart0
      obtain ⟨vv, ev, hsub⟩ := hsv.cell (by simp) (by simp) (by simp) rfl
      simp only [List.cons.injEq, and_true] at ev
      subst ev
      obtain ⟨u, hu1, hu2⟩ := hsub
      obtain ⟨v0, vs', cs, f1, f2, hlen, hcv⟩ := args_row eps hargs
      obtain ⟨et, c, f3, hc, _, hty⟩ := leafOf_some (o0 := 0) hlen hcnt hlat
      rw [hlty] at hty
      cases hty
      have ehd := hgd 0 v0 (by rw [f1]; rfl) o c (by rw [hcv]; simpa using hc)
      rw [Nat.zero_add] at ehd
      obtain ⟨_, _, ad, hn⟩ := hu1 b rb hrr
      have hn0 := hnav u ad hn
      obtain ⟨t1, A, len, cap, A', cap', q1, q2, q3, q4, q5, q6, q7⟩ := hu2 b rb hrr
      rw [eq, nav_append, hn0] at hn
      simp only [Option.bind_some] at hn
      have ehd' : (cellsV (us.getD 0 (.bool false))).getD o (.bool false) = c := ehd
      rw [ehd'] at hn
      rw [eq, ctype_append] at q1
      refine ⟨t0, m0, ps', v0, vs', cs, c, ctype b.t p, j, lo, n, u, ad, eps, f1, f2, f3, trip_mk hy, ?_, ?_⟩
      · rw [← hn]
        generalize ctype b.t p = tt
        cases tt <;> rfl
      · refine ⟨t1, A, len, cap, A', cap', ?_, q2, q3, q4, q5, q6, q7⟩
        revert q1
        generalize ctype b.t p = tt
        intro q1
        have q1 : tstep tt (.idx j) = .slc t1 := q1
        cases tt <;> simp only [tstep, reduceCtorEq] at q1
        rw [q1]
    have hmem : ∀ k ∈ keys (([] : Frag) ++ ioFrag R3 ids), ∃ i, k ∈ keys (own R3 [] i) := fun k hk => by
      rw [List.nil_append] at hk
      obtain ⟨r, _, hk⟩ := mem_ioFrag.1 hk
      exact ⟨r + 1, hk⟩
    refine ⟨valOf [v], run_results (us := [v]) (by rw [hrv]; simp [List.mapM_cons, hrun]), [v], Im1, [], ioFrag R3 ids, rfl, .inr ⟨hp, rfl, v, rfl, hpart⟩, k9, fun p hp => ?_, ?_, fun k hk => ?_, ⟨fun k hk => hI k hk, fun k hk => ?_⟩, fun k hk => ⟨hi2.sep.imlt k hk, hi2.sep.imok k hk⟩, ⟨hi2.keep.os, hi2.keep.tape, hi2.keep.output, hi2.keep.size, hi2.keep.block⟩⟩
    · have : ∀ {l : List Nat}, p ∈ ioFrag R3 l → ∃ i, p ∈ own R3 [] (i + 1) := by
        intro l
        induction l with
        | nil => intro h; simp [ioFrag] at h
        | cons r l ih =>
          intro h
          rcases List.mem_append.1 h with h | h
          · exact ⟨r, h⟩
          · exact ih h
      obtain ⟨i, hi⟩ := this (by simpa using hp)
      exact hi2.sep.heap (i + 1) p hi
    · rw [List.nil_append]; exact ioFrag_nodup hi2 k8
    · obtain ⟨i, hi⟩ := hmem k hk
      exact ⟨hi2.sep.im i k hi, hi2.sep.fresh i k hi⟩
    · exact hi2.keep.block k (himlt k hk) (fun hm => hdis k hm hk)
  cases e with
  | normal => exact done hq
  | ret => exact done hq
  | exit id => obtain ⟨st', hk, _⟩ := hq; cases hk
  | _ => exact hq.elim
end
end Go.Proofs.YtgdaiifhedpffaaDoor.V
set_option linter.unusedVariables false
set_option linter.unusedSimpArgs false
namespace Go.Proofs.YtgdaiifhedpffaaDoor.V
open Go
def eqV : Value → Value → Bool
  | .int k a, .int j b => decide (k = j) && decide (a = b)
  | .bool a, .bool b => a == b
  | .string a, .string b => a.data.toList.isEmpty && b.data.toList.isEmpty
  | .slice none 0 0, .slice none 0 0 => true
  | .nilIface, .nilIface => true
  | .map none, .map none => true
  | _, _ => false
def eqVs : List Value → List Value → Bool
  | [], [] => true
  | a :: l, b :: m => eqV a b && eqVs l m
  | _, _ => false
theorem eqV_ok : ∀ {a b : Value}, eqV a b = true → a = b := by
  intro a b h
  unfold eqV at h
  split at h
  · simp only [Bool.and_eq_true, decide_eq_true_eq] at h; rw [h.1, h.2]
  · simp only [beq_iff_eq] at h; rw [h]
  · rename_i x y
    simp only [Bool.and_eq_true, List.isEmpty_iff] at h
    have e1 : x = y := by
      cases x with
      | mk dx => cases y with
        | mk dy =>
          have h1 : dx = #[] := Array.toList_eq_nil_iff.1 h.1
          have h2 : dy = #[] := Array.toList_eq_nil_iff.1 h.2
          rw [h1, h2]
    rw [e1]
  · rfl
  · rfl
  · rfl
  · cases h
theorem eqVs_ok : ∀ {l m : List Value}, eqVs l m = true → l = m
  | [], [], _ => rfl
  | a :: l, b :: m, h => by
    simp only [eqVs, Bool.and_eq_true] at h
    rw [eqV_ok h.1, eqVs_ok h.2]
  | [], _ :: _, h => by simp [eqVs] at h
  | _ :: _, [], h => by simp [eqVs] at h
def infoB (P : Program) (t : TypeId) (te : TE) : Bool :=
  match P.info? t with
  | some i => decide (i.size = sz te.ty) && decide (i.bytes = te.bytes) && (!te.z || (match i.zero with | some z => eqVs z.cells.toList (zcells te.ty) && (!oneT te.ty || eqVs [z] (zcells te.ty)) | none => false))
  | none => false
def fieldsB (E : Env) (ty : Ty) : Nat → List Field → Bool
  | _, [] => true
  | j, f :: l => decide (f.offset = foff ty j) && (match E.get f.type with
    | some fe => decide ((fieldTys ty)[j]? = some fe.ty) && decide (sz fe.ty ≠ 0)
    | none => false) && fieldsB E ty (j + 1) l
def undB (P : Program) (E : Env) (t : TypeId) (te : TE) : Bool :=
  match te.d, P.underlying t with
  | .int k, some (.int j) => decide (j = k) && decide (te.ty = .int k)
  | .bool, some .bool => decide (te.ty = .bool)
  | .str, some .string => decide (te.ty = .str)
  | .slc e, some (.slice e') => decide (e' = e) && (match E.get e with | some ee => decide (te.ty = .slc ee.ty) | none => false)
  | .mp k v, some (.map k' v') => decide (k' = k) && decide (v' = v) && (match E.get k, E.get v with | some ke, some ve => decide (te.ty = .mp ke.ty ve.ty) | _, _ => false)
  | .struct _, some (.struct fields) => structTy te.ty && decide (fields.size = (fieldTys te.ty).length) && fieldsB E te.ty 0 fields.toList
  | .arr e, some (.array n e') => decide (e' = e) && structTy te.ty && decide (n = (fieldTys te.ty).length) && (match E.get e with
    | some fe => decide (sz fe.ty ≠ 0) && (List.range n).all (fun j => decide ((fieldTys te.ty)[j]? = some fe.ty) && decide (foff te.ty j = j * sz fe.ty))
    | none => false)
  | .other, some d => !d.isRow && decide (te.ty = .raw)
  | _, _ => false
def qB (P : Program) (t : TypeId) (te : TE) : Bool := !te.q || (match P.underlying t with
  | some (.struct fields) => fields.toList.all (fun f => f.name != "_") && !P.stoodInHeld t && !P.eqGuardType P.depth t
  | _ => false)
def envB (P : Program) (E : Env) : Bool := E.all fun p => infoB P p.1 p.2 && undB P E p.1 p.2 && qB P p.1 p.2
theorem Env.mem : ∀ {E : Env} {t : TypeId} {te : TE}, E.get t = some te → (t, te) ∈ E
  | (j, b) :: l, t, te, h => by
    simp only [Env.get] at h
    split at h
    · rename_i e; subst e; cases h; exact List.mem_cons_self ..
    · exact List.mem_cons_of_mem _ (Env.mem h)
theorem fieldsB_ok {E : Env} {ty : Ty} : ∀ {l : List Field} {k : Nat}, fieldsB E ty k l = true → ∀ j f, l[j]? = some f → f.offset = foff ty (k + j) ∧ ∃ fe, E.get f.type = some fe ∧ (fieldTys ty)[k + j]? = some fe.ty ∧ sz fe.ty ≠ 0
  | [], k, _, j, f, hf => by simp at hf
  | g :: l, k, h, j, f, hf => by
    simp only [fieldsB, Bool.and_eq_true, decide_eq_true_eq] at h
    cases j with
    | zero =>
      simp at hf; subst hf
      obtain ⟨⟨h1, h2⟩, _⟩ := h
      split at h2
      · rename_i fe hfe
        simp only [Bool.and_eq_true, decide_eq_true_eq] at h2
        exact ⟨h1, fe, hfe, h2.1, h2.2⟩
      · cases h2
    | succ j =>
      have := fieldsB_ok h.2 j f (by simpa using hf)
      rw [show k + 1 + j = k + (j + 1) by omega] at this
      exact this
theorem env_ok {P : Program} {E : Env} (h : envB P E = true) : EnvOk P E := by
  intro t te ht
  have h1 := (List.all_eq_true.1 h) _ (Env.mem ht)
  simp only [Bool.and_eq_true] at h1
  obtain ⟨⟨h1, h2⟩, h9⟩ := h1
  refine ⟨?_, ?_, fun hq => ?_⟩
  · unfold infoB at h1
    split at h1
    · rename_i i hi
      simp only [Bool.and_eq_true, decide_eq_true_eq] at h1
      refine ⟨i, hi, h1.1.1, h1.1.2, fun hz => ?_, fun hz h1t => ?_⟩
      all_goals
        have h3 := h1.2
        rw [hz] at h3
        simp only [Bool.not_true, Bool.false_or] at h3
        split at h3
      · rename_i z hz2
        simp only [Bool.and_eq_true] at h3
        exact ⟨z, hz2, eqVs_ok h3.1⟩
      · cases h3
      · rename_i z hz2
        rw [h1t] at h3
        simp only [Bool.and_eq_true, Bool.not_true, Bool.false_or] at h3
        exact ⟨z, hz2, (eqVs_ok h3.2).symm⟩
      · cases h3
    · cases h1
  · unfold undB at h2
    unfold UndOk
    split at h2
    · rename_i hd hu; rw [hd]; dsimp only
      simp only [Bool.and_eq_true, decide_eq_true_eq] at h2
      rw [hu, h2.1]; exact ⟨rfl, h2.2⟩
    · rename_i hd hu; rw [hd]; exact ⟨hu, by simpa using h2⟩
    · rename_i hd hu; rw [hd]; exact ⟨hu, by simpa using h2⟩
    · rename_i hd hu; rw [hd]; dsimp only
      simp only [Bool.and_eq_true, decide_eq_true_eq] at h2
      obtain ⟨h3, h4⟩ := h2
      subst h3
      refine ⟨hu, ?_⟩
      split at h4
      · rename_i ee hee; exact ⟨ee, hee, by simpa using h4⟩
      · cases h4
    · rename_i hd hu; rw [hd]; dsimp only
      simp only [Bool.and_eq_true, decide_eq_true_eq] at h2
      obtain ⟨⟨h3, h5⟩, h4⟩ := h2
      subst h3; subst h5
      refine ⟨hu, ?_⟩
      split at h4
      · rename_i ke ve hke hve; exact ⟨ke, ve, hke, hve, by simpa using h4⟩
      · cases h4
    · rename_i hd hu; rw [hd]; dsimp only
      simp only [Bool.and_eq_true, decide_eq_true_eq] at h2
      refine ⟨_, hu, h2.1.1, h2.1.2, fun j f hf => ?_⟩
      have := fieldsB_ok h2.2 j f (by simpa using hf)
      simpa using this
    · rename_i hd hu; rw [hd]; dsimp only
      simp only [Bool.and_eq_true, decide_eq_true_eq] at h2
      obtain ⟨⟨⟨rfl, h3⟩, h4⟩, h5⟩ := h2
      refine ⟨_, hu, h3, h4, ?_⟩
      split at h5
      · rename_i fe hfe
        simp only [Bool.and_eq_true, decide_eq_true_eq, List.all_eq_true, List.mem_range] at h5
        exact ⟨fe, hfe, h5.1, h5.2⟩
      · cases h5
    · rename_i hd hu; rw [hd]; dsimp only
      simp only [Bool.and_eq_true, Bool.not_eq_true', decide_eq_true_eq] at h2
      exact ⟨_, hu, h2.1, h2.2⟩
    · cases h2
  · unfold qB at h9
    rw [hq] at h9
    simp only [Bool.not_true, Bool.false_or] at h9
    split at h9
    · rename_i fields hf
      simp only [Bool.and_eq_true, Bool.not_eq_true', List.all_eq_true, bne_iff_ne, ne_eq] at h9
      exact ⟨fields, hf, h9.1.1, h9.1.2, h9.2⟩
    · cases h9
end Go.Proofs.YtgdaiifhedpffaaDoor.V
set_option linter.unusedVariables false
set_option linter.unusedSimpArgs false
namespace Go.Proofs.YtgdaiifhedpffaaDoor.V
open Go
section
variable {A B : Type}
theorem cond_bind (b : Bool) (x y : Option A) (k : A → Option B) : (cond b x y).bind k = cond b (x.bind k) (y.bind k) := by cases b <;> rfl
theorem ite_bind (p : Prop) [Decidable p] (x y : Option A) (k : A → Option B) : (if p then x else y).bind k = if p then x.bind k else y.bind k := by split <;> rfl
theorem bind_bind {C : Type} (x : Option A) (f : A → Option B) (k : B → Option C) : (x.bind f).bind k = x.bind fun a => (f a).bind k := by cases x <;> rfl
theorem some_bind (a : A) (k : A → Option B) : (some a).bind k = k a := rfl
theorem none_bind (k : A → Option B) : (none : Option A).bind k = none := rfl
end
theorem elim_bind {A B A2 B2 : Type} (f : A → Option B) (g : A2 → Option B) (s : A ⊕ A2) (k : B → Option B2) : (Sum.elim f g s).bind k = Sum.elim (fun a => (f a).bind k) (fun a => (g a).bind k) s := by cases s <;> rfl
theorem loop_ok {c : Fx} {b : Code} {nd : Node} {C X : Type} (con : nd.sk.T → C) (get : nd.sk.T → X) (put : C → X → nd.sk.T) (hpg : ∀ t, put (con t) (get t) = t) (g : C → X → Option (X ⊕ nd.Y)) (out : C → nd.Y → OutV nd.outs)
    (ho : ∀ t y, nd.out t y = out (con t) y) (hd : ∀ {R : Type} t y (K : Ex → St → Option R), nd.disp t y K = dispatch nd.outs K (nd.out t y))
    (hr : ∀ k x, roundS c b nd (put k x) = (g k x).bind (Sum.elim (fun x => some (.inl (put k x))) (fun y => some (.inr (out k y))))) (hL : ∀ t, nd.L t = loopO (g (con t)) (get t)) : LoopOk c b nd := by
  refine ⟨hd, fun x y h => ?_⟩
  rw [hL] at h
  obtain ⟨n, hn⟩ := loopO_some h
  refine ⟨n, ?_⟩
  rw [ho, ← hpg x]
  have e : con (put (con x) (get x)) = con x := by rw [hpg]
  rw [e]
  clear e
  generalize get x = u at hn
  generalize con x = k at hn
  clear h x
  induction n generalizing u with
  | zero => cases hn
  | succ n ih =>
    simp only [rounds] at hn ⊢
    rw [hr]
    cases hg : g k u with
    | none => rw [hg] at hn; cases hn
    | some s =>
      rw [hg] at hn
      cases s with
      | inl v => exact ih v hn
      | inr v => cases hn; rfl
theorem tail_ok {c : Fx} {b : Code} {nd : Node} {C X : Type} (con : nd.sk.T → C) (get : nd.sk.T → X) (put : C → X → nd.sk.T) (hpg : ∀ t, put (con t) (get t) = t) (F : X → Option nd.Y) (out : C → X → nd.Y → OutV nd.outs)
    (ho : ∀ t y, nd.out t y = out (con t) (get t) y) (hd : ∀ {R : Type} t y (K : Ex → St → Option R), nd.disp t y K = dispatch nd.outs K (nd.out t y))
    (hr : ∀ k x, tailS c b nd (put k x) = (F x).bind fun y => some (out k x y)) (hL : ∀ t, nd.L t = F (get t)) : TailOk c b nd := by
  refine ⟨hd, fun x y h => ?_⟩
  rw [hL] at h
  have := hr (con x) (get x)
  rw [hpg, h] at this
  rw [this, ho]; rfl
def LoopsOk (c : Fx) : List Code → Prop
  | [] => True
  | b :: l => (∀ nd, nget c.nodes true (head b) = some nd → LoopOk c b nd) ∧ LoopsOk c l
def TailsOk (c : Fx) : List Code → Prop
  | [] => True
  | b :: l => (∀ nd, nget c.nodes false (head b) = some nd → TailOk c b nd) ∧ TailsOk c l
theorem LoopsOk.of {c : Fx} {m l : List Code} (e : m = l) (h : LoopsOk c l) : ∀ b ∈ m, ∀ nd, nget c.nodes true (head b) = some nd → LoopOk c b nd := by
  subst e
  intro b hb
  induction m with
  | nil => cases hb
  | cons x m ih =>
    rcases List.mem_cons.1 hb with e | hb
    · rw [e]; exact h.1
    · exact ih h.2 hb
theorem TailsOk.of {c : Fx} {m l : List Code} (e : m = l) (h : TailsOk c l) : ∀ b ∈ m, ∀ nd, nget c.nodes false (head b) = some nd → TailOk c b nd := by
  subst e
  intro b hb
  induction m with
  | nil => cases hb
  | cons x m ih =>
    rcases List.mem_cons.1 hb with e | hb
    · rw [e]; exact h.1
    · exact ih h.2 hb
theorem node_is {c : Fx} {b : Code} {k : Bool} {N : Node} {Q : Node → Prop} (e : nget c.nodes k (head b) = some N) (h : Q N) : ∀ nd, nget c.nodes k (head b) = some nd → Q nd := by
  intro nd h2; rw [e] at h2; cases h2; exact h
theorem node_no {c : Fx} {b : Code} {k : Bool} {Q : Node → Prop} (e : nget c.nodes k (head b) = none) : ∀ nd, nget c.nodes k (head b) = some nd → Q nd := by
  intro nd h2; rw [e] at h2; cases h2
theorem no_tails {c : Fx} {l : List Code} (h : c.nodes.all (fun p => p.1.1) = true) : ∀ b ∈ l, ∀ nd, nget c.nodes false (head b) = some nd → TailOk c b nd := by
  intro b hb nd hn
  have go : ∀ {l : List ((Bool × Nat) × Node)} {o : Option Nat}, l.all (fun p => p.1.1) = true → nget l false o = none := by
    intro l o
    cases o with
    | none => intro _; cases l <;> rfl
    | some i =>
      induction l with
      | nil => intro _; rfl
      | cons p l ih =>
        intro h
        simp only [List.all_cons, Bool.and_eq_true] at h
        simp [nget, h.1, ih h.2]
  rw [go h] at hn; cases hn
def TabsOk (P : Program) : Tab → Prop
  | [] => True
  | p :: l => CalOk P p.1 p.2 ∧ TabsOk P l
theorem TabsOk.all {P : Program} {l : Tab} (h : TabsOk P l) : ∀ p ∈ l, CalOk P p.1 p.2 := by
  intro p hp
  induction l with
  | nil => cases hp
  | cons x l ih =>
    rcases List.mem_cons.1 hp with e | hp
    · rw [e]; exact h.1
    · exact ih h.2 hp
theorem loopO_eq {A B : Type} {f : A → Option (A ⊕ B)} {a : A} {b : B} {n : Nat} (h : rounds f n a = some b) : loopO f a = some b := by
  have mono : ∀ (n m : Nat) (a : A) (b b' : B), rounds f n a = some b → rounds f m a = some b' → b = b' := by
    intro n
    induction n with
    | zero => intro m a b b' h; cases h
    | succ n ih =>
      intro m a b b' h h'
      cases m with
      | zero => cases h'
      | succ m =>
        simp only [rounds] at h h'
        cases hf : f a with
        | none => rw [hf] at h; cases h
        | some s =>
          rw [hf] at h h'
          cases s with
          | inl x => exact ih m x b b' h h'
          | inr x => cases h; cases h'; rfl
  unfold loopO
  have hh : ∃ n b, rounds f n a = some b := ⟨n, b, h⟩
  rw [dif_pos hh]
  have h2 := Classical.choose_spec (Classical.choose_spec hh)
  rw [mono _ _ _ _ _ h2 h]
theorem loopO_next {A B : Type} {f : A → Option (A ⊕ B)} {a a' : A} (h : f a = some (.inl a')) : loopO f a = loopO f a' := by
  cases hb : loopO f a' with
  | some b =>
    obtain ⟨n, hn⟩ := loopO_some hb
    exact loopO_eq (n := n + 1) (by simp only [rounds, h]; exact hn)
  | none =>
    cases ha : loopO f a with
    | none => rfl
    | some b =>
      obtain ⟨n, hn⟩ := loopO_some ha
      cases n with
      | zero => cases hn
      | succ n =>
        simp only [rounds, h] at hn
        rw [loopO_eq hn] at hb; cases hb
theorem loopO_out {A B : Type} {f : A → Option (A ⊕ B)} {a : A} {b : B} (h : f a = some (.inr b)) : loopO f a = some b := loopO_eq (n := 1) (by simp only [rounds, h])
theorem sum_of {P : Program} {c : Fx} (hm : P.follows .mixedOrders = true) (hE : EnvOk P c.E) (hT : ∀ p ∈ c.T, CalOk P p.1 p.2) {f : FuncId} {fn : Func} {code : Code} (hf : P.funcs[f]? = some fn) (hb : fn.body = some code)
    (hL : ∀ b ∈ loops code, ∀ nd, nget c.nodes true (head b) = some nd → LoopOk c b nd) (hTl : ∀ b ∈ tails code, ∀ nd, nget c.nodes false (head b) = some nd → TailOk c b nd) {sm : Sm} (hp : sm.part = false)
    (hF : ∀ (ks : List Nat) (x : ArgT sm.ps), ks.length = ioN sm.ps → codeS c code (start sm.ps ks x fn.ntmps) (finK c.E fn.results.toList sm.ps sm.rs) = (sm.F x).bind fun r => some (r, ks.map some)) : SmOk P f sm :=
  sum_ok hm hE (fun G I0 => call_ok hT) hf hb hL hTl hp fun ks x r hl hr => by rw [hF ks x hl, hr]; rfl
theorem sumP_of {P : Program} {c : Fx} (hm : P.follows .mixedOrders = true) (hE : EnvOk P c.E) (hT : ∀ p ∈ c.T, CalOk P p.1 p.2) {f : FuncId} {fn : Func} {code : Code} (hf : P.funcs[f]? = some fn) (hb : fn.body = some code)
    (hL : ∀ b ∈ loops code, ∀ nd, nget c.nodes true (head b) = some nd → LoopOk c b nd) (hTl : ∀ b ∈ tails code, ∀ nd, nget c.nodes false (head b) = some nd → TailOk c b nd) {sm : Sm} (hp : sm.part = true)
    (hF : ∀ (ks : List Nat) (x : ArgT sm.ps), ks.length = ioN sm.ps → codeS c code (start sm.ps ks x fn.ntmps) (finPK c.E fn.results.toList sm.ps sm.rs) = (sm.F x).bind fun r => some (r, ks.map some)) : SmOk P f sm :=
  sumP_ok hm hE (fun G I0 => call_ok hT) hf hb hL hTl hp fun ks x r hl hr => by rw [hF ks x hl, hr]; rfl
end Go.Proofs.YtgdaiifhedpffaaDoor.V
