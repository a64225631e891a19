/- The store. -/
import Derived.Test.YtlgbhaigpecdoaaVMake
set_option linter.unusedVariables false
set_option linter.unusedSimpArgs false
namespace Go.Proofs.Ytlgbhaigpecdoaa.V
open Go

theorem flat_any {w : World} {Im : Nat → Prop} : ∀ {t : Ty} {m : Md} {x : den t} {cs : List Value} {h : Frag}, flat t = true → Rep w Im t m x cs h → h = [] ∧ ∀ m', Rep w Im t m' x cs []
  | .int _, _, _, _, _, _, r => ⟨r.2, fun _ => ⟨r.1, rfl⟩⟩
  | .bool, _, _, _, _, _, r => ⟨r.2, fun _ => ⟨r.1, rfl⟩⟩
  | .str, _, _, _, _, _, r => ⟨r.2, fun _ => ⟨r.1, rfl⟩⟩
  | .raw, _, _, _, _, _, r => ⟨r.2.2, fun _ => ⟨r.1, r.2.1, rfl⟩⟩
  | .unit, _, _, _, _, _, r => ⟨r.2, fun _ => ⟨r.1, rfl⟩⟩
  | .pair a b, m, x, cs, h, hf, ⟨c1, c2, h1, h2, e1, e2, r1, r2⟩ => by
    simp only [flat, Bool.and_eq_true] at hf
    obtain ⟨f1, g1⟩ := flat_any hf.1 r1
    obtain ⟨f2, g2⟩ := flat_any hf.2 r2
    subst f1; subst f2
    exact ⟨e2, fun m' => ⟨c1, c2, [], [], e1, rfl, g1 _, g2 _⟩⟩
  | .slc t, _, _, _, _, hf, _ => by simp [flat] at hf
section
variable {P : Program} {G : Gl} {I0 : Nat → Prop} {st st1 : St} {a : Act} {vs : Array Value} {w w' : World} {Im : Nat → Prop} {R : Real} {hand hand' : Frag} {o : Oper} {T : Type} {K : St → Option T} {r0 : T} {Q : Exit → Act → World → Prop} {E : Env}
theorem Keep.setRow {k : Nat} {c : Array Value} (h : Keep G w) (hk : G.w0.heap.size ≤ k ∨ k ∈ G.ks) : Keep G (w.setRow k c) :=
  ⟨h.os, h.tape, h.output, by rw [setRow_size']; exact h.size, fun b hb hn => by
    rw [setRow_other w k b c (by rintro rfl; rcases hk with hk | hk; · omega
                                 · exact hn hk)]
    exact h.block b hb hn⟩
where
  setRow_size' {w : World} {k : Nat} {c : Array Value} : (w.setRow k c).heap.size = w.heap.size := by simp [World.setRow]
/-- One block of a box turns; something goes into the box out of the hand. -/
theorem Inv.change (h : Inv G st vs w Im R (hand ++ hand')) {r : Nat} {b bN : Bx} {rb rbN : RB} (hr : R r = some (b, rb)) {k0 : Nat} {c0 cN : Array Value} {e0 : TypeId} (hk0 : (k0, (c0, e0)) ∈ fragOf b rb)
    (hfr : ∀ p ∈ fragOf bN rbN, (p ∈ fragOf b rb ∧ p.1 ≠ k0) ∨ p ∈ hand' ∨ p = (k0, (cN, e0))) (hnd : (keys (fragOf bN rbN)).Nodup) (hrep : Rep (w.setRow k0 cN) Im bN.t bN.m bN.x rbN.cs rbN.h)
    {st' : St} {p : Bool → Nat → Path → Bool} (hbox : ∀ j, bget st'.boxes j = if j = r then some bN else bget st.boxes j) (hsl : st'.slots = st.slots.map (forget p))
    (hs : (∀ q v, p false r q = false → RefOK w R r q v → RefOK (w.setRow k0 cN) (fun j => if j = r then some (bN, rbN) else R j) r q v) ∧
      (∀ q lo n v, p false r q = false → SubOK w R r q lo n v → SubOK (w.setRow k0 cN) (fun j => if j = r then some (bN, rbN) else R j) r q lo n v) ∧
      (∀ q v, p true r q = false → PtrOK w R r q v → PtrOK (w.setRow k0 cN) (fun j => if j = r then some (bN, rbN) else R j) r q v)) :
    Inv G st' vs (w.setRow k0 cN) Im (fun j => if j = r then some (bN, rbN) else R j) hand := by
  have kin : k0 ∈ keys (own R (hand ++ hand') (r + 1)) := by rw [own_at hr]; exact keys_mem.2 ⟨_, hk0, rfl⟩
  have hh0 : w.heap[k0]? = some (.cells c0 e0 (0, 0)) := h.heapOK hr _ hk0
  have other : ∀ k, k ≠ k0 → (w.setRow k0 cN).heap[k]? = w.heap[k]? := fun k hk => setRow_other w k0 k cN hk
  have nin : ∀ j, j ≠ r + 1 → k0 ∉ keys (own R (hand ++ hand') j) := fun j hj hk => h.sep.sep j (r + 1) hj k0 hk kin
  have g : Grow w (w.setRow k0 cN) Im Im := ⟨fun _ h => h, fun k hk => other k (fun e => h.sep.im _ _ kin (e ▸ hk))⟩
  have hsv := h.sv g (R' := fun j => if j = r then some (bN, rbN) else R j) (p := p) (fun j => by
    by_cases ej : j = r
    · subst ej; exact .inr hs
    · refine .inl ⟨by simp [ej], fun b2 rb2 hb2 k hk => other k (fun e => ?_)⟩
      subst e
      exact nin (j + 1) (by simpa using ej) (by rw [own_at hb2]; obtain ⟨p, hp, e⟩ := keys_mem.1 hk; exact keys_mem.2 ⟨p, fragOf_sub p hp, e⟩))
  have hhand : keys (own R (hand ++ hand') 0) = keys hand ++ keys hand' := by rw [own_zero, keys_append]
  have n0 := h.sep.nod 0
  rw [hhand] at n0
  have dj := (List.nodup_append.1 n0).2.2
  -- a key of the new box: an old one of it, or out of the hand
  have newk : ∀ k ∈ keys (fragOf bN rbN), k ∈ keys (own R (hand ++ hand') (r + 1)) ∨ k ∈ keys hand' := fun k hk => by
    obtain ⟨q, hq, e⟩ := keys_mem.1 hk
    rcases hfr q hq with h1 | h1 | h1
    · exact .inl (by rw [own_at hr]; exact keys_mem.2 ⟨q, h1.1, e⟩)
    · exact .inr (keys_mem.2 ⟨q, h1, e⟩)
    · subst h1; subst e; exact .inl kin
  refine ⟨fun j => ?_, fun j b2 r2 hb2 => ?_, ⟨fun j => ?_, fun j l hjl k k1 k2 => ?_, fun j q hq => ?_, fun j k hk => ?_, fun j k hk => ?_, fun k hk => ?_, h.sep.imok⟩, fun n => ?_, ?_, ?_⟩
  · rw [hbox]; split
    · simp
    · exact h.box j
  · have hb2 : (if j = r then some (bN, rbN) else R j) = some (b2, r2) := hb2
    split at hb2
    · cases hb2; exact hrep
    · exact (h.rep j b2 r2 hb2).grow g
  · cases j with
    | zero => exact (List.nodup_append.1 n0).1
    | succ j =>
      simp only [own]
      by_cases ej : j = r
      · rw [if_pos ej]; exact hnd
      · rw [if_neg ej]; exact h.sep.nod (j + 1)
  · have m : ∀ j, k ∈ keys (own (fun j => if j = r then some (bN, rbN) else R j) hand j) → ((j = 0 ∧ k ∈ keys hand) ∨ (j = r + 1 ∧ (k ∈ keys (own R (hand ++ hand') (r + 1)) ∨ k ∈ keys hand')) ∨ (j ≠ 0 ∧ j ≠ r + 1 ∧ k ∈ keys (own R (hand ++ hand') j))) := by
      intro j hk
      cases j with
      | zero => exact .inl ⟨rfl, hk⟩
      | succ j =>
        simp only [own] at hk
        by_cases ej : j = r
        · rw [if_pos ej] at hk; exact .inr (.inl ⟨by rw [ej], newk k hk⟩)
        · rw [if_neg ej] at hk; exact .inr (.inr ⟨by simp, by simpa using ej, hk⟩)
    have z : k ∈ keys hand → k ∈ keys (own R (hand ++ hand') 0) := fun hk => by rw [hhand]; exact List.mem_append_left _ hk
    have z' : k ∈ keys hand' → k ∈ keys (own R (hand ++ hand') 0) := fun hk => by rw [hhand]; exact List.mem_append_right _ hk
    rcases m j k1 with ⟨e1, a1⟩ | ⟨e1, a1⟩ | ⟨e1, e1', a1⟩ <;> rcases m l k2 with ⟨e2, a2⟩ | ⟨e2, a2⟩ | ⟨e2, e2', a2⟩
    · exact hjl (e1.trans e2.symm)
    · rcases a2 with a2 | a2
      · exact h.sep.sep 0 (r + 1) (by simp) k (z a1) a2
      · exact dj k a1 k a2 rfl
    · exact h.sep.sep 0 l (Ne.symm e2) k (z a1) a2
    · rcases a1 with a1 | a1
      · exact h.sep.sep 0 (r + 1) (by simp) k (z a2) a1
      · exact dj k a2 k a1 rfl
    · exact hjl (e1.trans e2.symm)
    · rcases a1 with a1 | a1
      · exact h.sep.sep (r + 1) l (Ne.symm e2') k a1 a2
      · exact h.sep.sep 0 l (Ne.symm e2) k (z' a1) a2
    · exact h.sep.sep 0 j (Ne.symm e1) k (z a2) a1
    · rcases a2 with a2 | a2
      · exact h.sep.sep (r + 1) j (Ne.symm e1') k a2 a1
      · exact h.sep.sep 0 j (Ne.symm e1) k (z' a2) a1
    · exact h.sep.sep j l hjl k a1 a2
  · have old : ∀ j, ∀ q ∈ own R (hand ++ hand') j, q.1 ≠ k0 → (w.setRow k0 cN).heap[q.1]? = some (.cells q.2.1 q.2.2 (0, 0)) := fun j q hq hne => by rw [other _ hne]; exact h.sep.heap j q hq
    cases j with
    | zero =>
      have : q ∈ own R (hand ++ hand') 0 := List.mem_append_left _ hq
      exact old 0 q this (fun e => nin 0 (by simp) (e ▸ keys_mem.2 ⟨q, this, rfl⟩))
    | succ j =>
      simp only [own] at hq
      by_cases ej : j = r
      · rw [if_pos ej] at hq
        rcases hfr q hq with h1 | h1 | h1
        · exact old (r + 1) q (by rw [own_at hr]; exact h1.1) h1.2
        · have : q ∈ own R (hand ++ hand') 0 := List.mem_append_right _ h1
          exact old 0 q this (fun e => nin 0 (by simp) (e ▸ keys_mem.2 ⟨q, this, rfl⟩))
        · subst h1; exact setRow_heap w k0 c0 cN e0 (0, 0) hh0
      · rw [if_neg ej] at hq
        exact old (j + 1) q hq (fun e => nin (j + 1) (by simpa using ej) (e ▸ keys_mem.2 ⟨q, hq, rfl⟩))
  · cases j with
    | zero => exact h.sep.im 0 k (by rw [hhand]; exact List.mem_append_left _ hk)
    | succ j =>
      simp only [own] at hk
      by_cases ej : j = r
      · rw [if_pos ej] at hk
        rcases newk k hk with h1 | h1
        · exact h.sep.im _ k h1
        · exact h.sep.im 0 k (by rw [hhand]; exact List.mem_append_right _ h1)
      · rw [if_neg ej] at hk; exact h.sep.im (j + 1) k hk
  · cases j with
    | zero => exact h.sep.fresh 0 k (by rw [hhand]; exact List.mem_append_left _ hk)
    | succ j =>
      simp only [own] at hk
      by_cases ej : j = r
      · rw [if_pos ej] at hk
        rcases newk k hk with h1 | h1
        · exact h.sep.fresh _ k h1
        · exact h.sep.fresh 0 k (by rw [hhand]; exact List.mem_append_right _ h1)
      · rw [if_neg ej] at hk; exact h.sep.fresh (j + 1) k hk
  · rw [Keep.setRow.setRow_size']; exact h.sep.imlt k hk
  · rw [hsl, sget_map]; exact hsv.2 (h.slots n)
  · rw [hsl, List.length_map]; exact h.len
  · exact h.keep.setRow (h.sep.fresh _ _ kin)
theorem fragOf_keys {b : Bx} {rb : RB} : keys (fragOf b rb) = (match b.mem with | some _ => [blkOf b rb] | none => []) ++ keys rb.h := by
  unfold fragOf; cases b.mem <;> simp [keys]
/-- Something else is put at a place of a box. -/
theorem Inv.place (h : Inv G st vs w Im R (hand ++ hand')) {r : Nat} {b : Bx} {rb : RB} (hr : R r = some (b, rb)) {q : Path} (hv : Valid b.t b.x b.m q) {cs : List Value} {b' off : Nat} (hn : nav w b.t rb.cs (locOf b rb) q = some (cs, some (b', off)))
    {m : Md} {y : den (ctype b.t q)} {c2 : List Value} (hrep : Rep w Im (ctype b.t q) m y c2 hand')
    {fl : Bool} (hfl : fl = flat (ctype b.t q)) (hm : fl = false → lev q ≠ 0 → m = mget b.m q) :
    ∃ cur e R', w.heap[b']? = some (.cells cur e (0, 0)) ∧ off + c2.length ≤ cur.size ∧
      ∀ st', (∀ j, bget st'.boxes j = if j = r then some { b with x := cput b.t b.x q y, m := if fl = false ∧ lev q = 0 then mput b.m q m else b.m } else bget st.boxes j) →
        st'.slots = (if fl = true then st.slots else st.slots.map (kill r (lev q))) →
        Inv G st' vs (w.setRow b' (cur.toList.take off ++ c2 ++ cur.toList.drop (off + c2.length)).toArray) Im R' hand := by
  obtain ⟨cs', ad', A, h1, B, n1, n2, n3, n4, n5⟩ := focus q (ad := locOf b rb) hv (h.rep r b rb hr) (fun p hp => h.heapOK hr p (fragOf_sub p hp)) (h.nodup' hr)
  rw [hn] at n1
  simp only [Option.some.injEq, Prod.mk.injEq] at n1
  obtain ⟨rfl, rfl⟩ := n1
  have hl2 : c2.length = cs.length := by rw [hrep.len, n3.len]
  have hl3 : c2.length = sz (ctype b.t q) := hrep.len
  have hnf := h.nodup hr
  have dj : ∀ k ∈ keys hand', k ∉ keys (fragOf b rb) := fun k hk hk2 => h.sep.sep 0 (r + 1) (by simp) k (by rw [own_zero, keys_append]; exact List.mem_append_right _ hk) (by rw [own_at hr]; exact hk2)
  have ndh : (keys hand').Nodup := by have := h.sep.nod 0; rw [own_zero, keys_append] at this; exact (List.nodup_append.1 this).2.1
  have hslots : ∀ (P : Bool → Nat → Path → Bool), (fl = true → P = fun _ _ _ => false) → (fl = false → P = fun isPtr s q' => decide (s = r) && cond isPtr (decide (lev q < lev q')) (decide (lev q ≤ lev q'))) →
      (if fl = true then st.slots else st.slots.map (kill r (lev q))) = st.slots.map (forget P) := by
    intro P h1 h2
    cases fl with
    | true => rw [if_pos rfl, h1 rfl]; have : (V.forget fun _ _ _ => false) = id := funext forget_none; rw [this]; simp
    | false => rw [if_neg (by simp), h2 rfl]; rfl
  -- what leads to the box
  have special : ∀ (bN : Bx) (rbN : RB) (w' : World), bN.t = b.t → locOf bN rbN = locOf b rb → bN.mem = b.mem →
      (∀ q2, Valid b.t b.x b.m q2 → (fl = true ∨ lev q2 ≤ lev q) → (ht : bN.t = b.t) → Valid bN.t bN.x bN.m q2) →
      (∀ q2, Valid b.t b.x b.m q2 → (fl = true ∨ lev q2 ≤ lev q) → Stays (fl = true) b.t q2 (lev q2 < lev q) (nav w b.t rb.cs (locOf b rb) q2) (nav w' b.t rbN.cs (locOf b rb) q2)) →
      ∀ (P : Bool → Nat → Path → Bool), (fl = true → P = fun _ _ _ => false) → (fl = false → P = fun isPtr s q' => decide (s = r) && cond isPtr (decide (lev q < lev q')) (decide (lev q ≤ lev q'))) →
      (∀ q v, P false r q = false → RefOK w R r q v → RefOK w' (fun j => if j = r then some (bN, rbN) else R j) r q v) ∧
      (∀ q lo n v, P false r q = false → SubOK w R r q lo n v → SubOK w' (fun j => if j = r then some (bN, rbN) else R j) r q lo n v) ∧
      (∀ q v, P true r q = false → PtrOK w R r q v → PtrOK w' (fun j => if j = r then some (bN, rbN) else R j) r q v) := by
    intro bN rbN w' ht hloc hmem hval hstay Pp hp1 hp2
    have refs : ∀ q2 v, Pp false r q2 = false → RefOK w R r q2 v → RefOK w' (fun j => if j = r then some (bN, rbN) else R j) r q2 v := by
      intro q2 v hp hh b2 rb2 hb2
      simp only [if_true] at hb2; cases hb2
      obtain ⟨hv2, ⟨t2, ht2⟩, ad2, hn2⟩ := hh b rb hr
      have hc : fl = true ∨ lev q2 < lev q := by
        cases fl with
        | true => exact .inl rfl
        | false => rw [hp2 rfl] at hp; simp at hp; exact .inr hp
      obtain ⟨c', k1, k2⟩ := hstay q2 hv2 (hc.imp id Nat.le_of_lt) _ _ hn2
      have := k2 ⟨t2, ht2⟩ hc
      subst this
      exact ⟨hval q2 hv2 (hc.imp id Nat.le_of_lt) ht, ⟨t2, by rw [ht]; exact ht2⟩, ad2, by rw [ht, hloc]; exact k1⟩
    refine ⟨refs, fun q2 lo n v hp ⟨u, hu, hsub⟩ => ⟨u, refs q2 u hp hu, fun b2 rb2 hb2 => ?_⟩, fun q2 v hp hh b2 rb2 hb2 => ?_⟩
    · simp only [if_true] at hb2; cases hb2
      rw [ht]; exact hsub b rb hr
    · simp only [if_true] at hb2; cases hb2
      obtain ⟨hv2, cs2, b3, o2, hn2, e2⟩ := hh b rb hr
      have hc : fl = true ∨ lev q2 ≤ lev q := by
        cases fl with
        | true => exact .inl rfl
        | false => rw [hp2 rfl] at hp; simp at hp; exact .inr hp
      obtain ⟨c', k1, _⟩ := hstay q2 hv2 hc _ _ hn2
      exact ⟨hval q2 hv2 hc ht, c', b3, o2, by rw [ht, hloc]; exact k1, e2⟩
  by_cases h0 : lev q = 0
  · obtain ⟨pre, post, p1, p2, p3, p4, p5⟩ := n4 h0
    unfold locOf at p2
    obtain ⟨ty, hmm⟩ : ∃ ty, b.mem = some ty := by
      cases hmm : b.mem with
      | none => rw [hmm] at p2; simp at p2
      | some ty => exact ⟨ty, rfl⟩
    rw [hmm] at p2
    simp at p2
    obtain ⟨rfl, rfl⟩ := p2
    have hfr : fragOf b rb = ((blkOf b rb), (rb.cs.toArray, ty)) :: rb.h := by unfold fragOf; rw [hmm]
    have hh0 : w.heap[blkOf b rb]? = some (.cells rb.cs.toArray ty (0, 0)) := h.heapOK hr _ (by rw [hfr]; exact List.mem_cons_self ..)
    have hnb : (blkOf b rb) ∉ keys rb.h := by rw [hfr, keys_cons] at hnf; exact (List.nodup_cons.1 hnf).1
    refine ⟨rb.cs.toArray, ty, (fun j => if j = r then some ({ b with x := cput b.t b.x q y, m := if fl = false ∧ lev q = 0 then mput b.m q m else b.m }, { rb with cs := pre ++ c2 ++ post, h := A ++ hand' ++ B }) else R j), hh0, by rw [p1]; simp; omega, fun st' hbox hsl => ?_⟩
    have ecs : (rb.cs.toArray.toList.take pre.length ++ c2 ++ rb.cs.toArray.toList.drop (pre.length + c2.length)) = pre ++ c2 ++ post := by
      rw [hl2, p1]; simp
    rw [ecs]
    let Pp : Bool → Nat → Path → Bool := if fl = true then fun _ _ _ => false else fun isPtr s q' => decide (s = r) && cond isPtr (decide (lev q < lev q')) (decide (lev q ≤ lev q'))
    have hw' : ∀ k ∈ keys rb.h, (w.setRow (blkOf b rb) (pre ++ c2 ++ post).toArray).heap[k]? = w.heap[k]? := fun k hk => setRow_other _ _ _ _ (by rintro rfl; exact hnb hk)
    have gr : Grow w (w.setRow (blkOf b rb) (pre ++ c2 ++ post).toArray) Im Im := ⟨fun _ h => h, fun k hk => setRow_other _ _ _ _ (by
      rintro rfl; exact h.sep.im (r + 1) _ (by rw [own_at hr, hfr]; simp [keys]) hk)⟩
    refine h.change (bN := { b with x := cput b.t b.x q y, m := if fl = false ∧ lev q = 0 then mput b.m q m else b.m }) (rbN := { rb with cs := pre ++ c2 ++ post, h := A ++ hand' ++ B }) (p := Pp) hr (k0 := (blkOf b rb)) (c0 := rb.cs.toArray) (e0 := ty)
      (by rw [hfr]; exact List.mem_cons_self ..) ?_ ?_ ?_ hbox (by rw [hsl]; exact hslots Pp (fun h => by simp only [Pp]; rw [if_pos h]) (fun h => by simp only [Pp]; rw [if_neg (by simp [h])])) ?_
    · intro p hp
      have : p ∈ ((blkOf b rb), ((pre ++ c2 ++ post).toArray, ty)) :: (A ++ hand' ++ B) := by unfold fragOf at hp; simp only [hmm] at hp; exact hp
      rcases List.mem_cons.1 this with e | hp
      · exact .inr (.inr e)
      · have key : ∀ p ∈ A ++ B, (p ∈ fragOf b rb ∧ p.1 ≠ (blkOf b rb)) := fun p hp => by
          have : p ∈ rb.h := by rw [n2]; simp at hp ⊢; rcases hp with h | h <;> simp [h]
          exact ⟨fragOf_sub p this, fun e => hnb (e ▸ keys_mem.2 ⟨p, this, rfl⟩)⟩
        simp only [List.mem_append] at hp
        rcases hp with (hp | hp) | hp
        · exact .inl (key p (by simp [hp]))
        · exact .inr (.inl hp)
        · exact .inl (key p (by simp [hp]))
    · rw [fragOf_keys]
      simp only [hmm]
      rw [hfr, keys_cons, n2] at hnf
      obtain ⟨hb1, hb2⟩ := List.nodup_cons.1 hnf
      simp only [keys_append] at hb1 hb2 ⊢
      have djA : ∀ k ∈ keys hand', k ≠ (blkOf b rb) ∧ k ∉ keys A ∧ k ∉ keys B := fun k hk => by
        have := dj k hk
        rw [hfr, keys_cons, n2, keys_append, keys_append] at this
        simp at this
        exact ⟨this.1, this.2.1, this.2.2.2⟩
      simp only [List.singleton_append, List.nodup_cons, List.nodup_append, List.mem_append, not_or] at hb1 hb2 ⊢
      refine ⟨⟨⟨hb1.1.1, fun hk => (djA _ hk).1 rfl⟩, hb1.2⟩, ⟨⟨hb2.1.1, ndh, fun x hx z hz e => (djA z hz).2.1 (e ▸ hx)⟩, hb2.2.1, fun x hx z hz e => ?_⟩⟩
      rcases hx with hx | hx
      · exact hb2.2.2 x (.inl hx) z hz e
      · exact (djA x hx).2.2 (e ▸ hz)
    · show Rep _ Im b.t (if fl = false ∧ lev q = 0 then mput b.m q m else b.m) (cput b.t b.x q y) (pre ++ c2 ++ post) (A ++ hand' ++ B)
      by_cases hf : fl = false
      · rw [if_pos ⟨hf, h0⟩]; exact p3 _ Im gr m y c2 hand' (hrep.grow gr)
      · rw [if_neg (by simp [hf])]
        have hf' : fl = true := by simpa using hf
        obtain ⟨f1, f2⟩ := flat_any (by rw [← hfl]; exact hf') hrep
        rw [f1]; exact p4 _ Im gr y c2 [] ((f2 _).grow gr)
    · refine special { b with x := cput b.t b.x q y, m := if fl = false ∧ lev q = 0 then mput b.m q m else b.m } { rb with cs := pre ++ c2 ++ post, h := A ++ hand' ++ B } _ rfl rfl rfl ?_ ?_ Pp (fun h => by simp only [Pp]; rw [if_pos h]) (fun h => by simp only [Pp]; rw [if_neg (by simp [h])])
      · intro q2 hv2 hc ht
        show Valid b.t (cput b.t b.x q y) (if fl = false ∧ lev q = 0 then mput b.m q m else b.m) q2
        by_cases hf : fl = false
        · rw [if_pos ⟨hf, h0⟩]
          refine valid0 q2 ?_ hv2
          rcases hc with hc | hc
          · rw [hf] at hc; cases hc
          · omega
        · rw [if_neg (by simp [hf])]
          have hf' : fl = true := by simpa using hf
          exact (p5 _ c2 hl3 hw' y q2 hv2 (.inl (by rw [← hfl]; exact hf'))).1 (by rw [← hfl]; exact hf')
      · intro q2 hv2 hc
        have := (p5 _ c2 hl3 hw' y q2 hv2 (hc.imp (fun h => by rw [← hfl]; exact h) (fun h => by omega))).2
        intro c ad2 hn2
        obtain ⟨c', k1, k2⟩ := this c ad2 hn2
        refine ⟨c', k1, fun ht hs => k2 ht ?_⟩
        rcases hs with hs | hs
        · exact .inl (by rw [← hfl]; exact hs)
        · omega
  · obtain ⟨A1, A2, b2, cc, e, pre, post, p0, p1, p2, p3, p4⟩ := n5 h0
    simp only [Option.some.injEq, Prod.mk.injEq] at p2
    obtain ⟨rfl, rfl⟩ := p2
    have hin : (b', (cc, e)) ∈ rb.h := by rw [n2, p0]; simp
    have hh0 : w.heap[b']? = some (.cells cc e (0, 0)) := h.heapOK hr _ (fragOf_sub _ hin)
    refine ⟨cc, e, (fun j => if j = r then some ({ b with x := cput b.t b.x q y }, { rb with h := A1 ++ (b', ((pre ++ c2 ++ post).toArray, e)) :: A2 ++ hand' ++ B }) else R j), hh0, by have := congrArg List.length p1; simp at this; omega, fun st' hbox hsl => ?_⟩
    have ecs : (cc.toList.take pre.length ++ c2 ++ cc.toList.drop (pre.length + c2.length)) = pre ++ c2 ++ post := by
      rw [hl2, p1]; simp
    rw [ecs]
    let Pp : Bool → Nat → Path → Bool := if fl = true then fun _ _ _ => false else fun isPtr s q' => decide (s = r) && cond isPtr (decide (lev q < lev q')) (decide (lev q ≤ lev q'))
    have hw' : ∀ k ∈ keys rb.h, k ≠ b' → (w.setRow b' (pre ++ c2 ++ post).toArray).heap[k]? = w.heap[k]? := fun k _ hne => setRow_other _ _ _ _ hne
    have hb' : (w.setRow b' (pre ++ c2 ++ post).toArray).heap[b']? = some (.cells (pre ++ c2 ++ post).toArray e (0, 0)) := setRow_heap w b' cc _ e (0, 0) hh0
    have gr : Grow w (w.setRow b' (pre ++ c2 ++ post).toArray) Im Im := ⟨fun _ h => h, fun k hk => setRow_other _ _ _ _ (by
      rintro rfl; exact h.sep.im (r + 1) _ (by rw [own_at hr]; exact keys_mem.2 ⟨_, fragOf_sub _ hin, rfl⟩) hk)⟩
    have em : (if fl = false ∧ lev q = 0 then mput b.m q m else b.m) = b.m := by rw [if_neg (by simp [h0])]
    rw [em] at hbox
    have hnh := h.nodup' hr
    rw [n2, p0] at hnh
    refine h.change (bN := { b with x := cput b.t b.x q y }) (rbN := { rb with h := A1 ++ (b', ((pre ++ c2 ++ post).toArray, e)) :: A2 ++ hand' ++ B }) (p := Pp) hr (k0 := b') (c0 := cc) (e0 := e)
      (fragOf_sub _ hin) ?_ ?_ ?_ hbox (by rw [hsl]; exact hslots Pp (fun h => by simp only [Pp]; rw [if_pos h]) (fun h => by simp only [Pp]; rw [if_neg (by simp [h])])) ?_
    · intro p hp
      have key : ∀ p ∈ A1 ++ A2 ++ B, p ∈ fragOf b rb ∧ p.1 ≠ b' := fun p hp => by
        have hp2 : p ∈ rb.h := by rw [n2, p0]; simp at hp ⊢; rcases hp with h | h | h <;> simp [h]
        refine ⟨fragOf_sub p hp2, fun ek => ?_⟩
        simp only [keys_append, keys_cons] at hnh
        have hk : p.1 ∈ keys A1 ++ keys A2 ++ keys B := by
          simp only [List.mem_append] at hp ⊢
          rcases hp with (h | h) | h
          · exact .inl (.inl (keys_mem.2 ⟨p, h, rfl⟩))
          · exact .inl (.inr (keys_mem.2 ⟨p, h, rfl⟩))
          · exact .inr (keys_mem.2 ⟨p, h, rfl⟩)
        rw [ek] at hk
        simp only [List.nodup_append, List.nodup_cons, List.mem_append, List.mem_cons] at hnh hk
        rcases hk with (h | h) | h
        · exact hnh.1.1.2.2 b' h b' (.inl rfl) rfl
        · exact hnh.1.1.2.1.1 h
        · exact hnh.2.2 b' (.inl (.inr (.inl rfl))) b' h rfl
      have hp' : p ∈ (match b.mem with | some ty => [((blkOf b rb), (rb.cs.toArray, ty))] | none => []) ++ (A1 ++ (b', ((pre ++ c2 ++ post).toArray, e)) :: A2 ++ hand' ++ B) := by
        unfold fragOf at hp; cases hmm : b.mem <;> simp only [hmm] at hp ⊢ <;> simpa [blkOf] using hp
      rcases List.mem_append.1 hp' with hp | hp
      · have hf : p ∈ fragOf b rb := by unfold fragOf; cases hmm : b.mem <;> simp only [hmm] at hp ⊢ <;> simp at hp; rw [hp]; exact List.mem_cons_self ..
        refine .inl ⟨hf, fun ek => ?_⟩
        rw [fragOf_keys] at hnf
        cases hmm : b.mem with
        | none => rw [hmm] at hp; simp at hp
        | some ty =>
          rw [hmm] at hp hnf; simp at hp hnf
          rw [hp] at ek
          exact hnf.1 (by have ek : (blkOf b rb) = b' := ek; rw [ek]; exact keys_mem.2 ⟨_, hin, rfl⟩)
      · simp only [List.mem_append, List.mem_cons] at hp
        rcases hp with ((hp | hp | hp) | hp) | hp
        · exact .inl (key p (by simp [hp]))
        · exact .inr (.inr hp)
        · exact .inl (key p (by simp [hp]))
        · exact .inr (.inl hp)
        · exact .inl (key p (by simp [hp]))
    · rw [fragOf_keys] at hnf ⊢
      have hnf' := hnf
      rw [n2, p0] at hnf'
      have djA : ∀ k ∈ keys hand', k ∉ (match b.mem with | some _ => [blkOf b rb] | none => []) ∧ k ∉ keys rb.h := fun k hk => by
        have := dj k hk
        rw [fragOf_keys] at this
        exact ⟨fun h => this (List.mem_append_left _ h), fun h => this (List.mem_append_right _ h)⟩
      show ((match b.mem with | some _ => [blkOf b rb] | none => []) ++ keys (A1 ++ (b', ((pre ++ c2 ++ post).toArray, e)) :: A2 ++ hand' ++ B)).Nodup
      generalize (match b.mem with | some _ => [blkOf b rb] | none => []) = M at hnf' djA ⊢
      have djB : ∀ k ∈ keys hand', k ∉ M ∧ k ∉ keys A1 ∧ k ≠ b' ∧ k ∉ keys A2 ∧ k ∉ keys B := fun k hk => by
        obtain ⟨d1, d2⟩ := djA k hk
        rw [n2, p0] at d2
        simp only [keys_append, keys_cons, List.mem_append, List.mem_cons, not_or] at d2
        exact ⟨d1, d2.1.1.1, d2.1.1.2.1, d2.1.1.2.2, d2.2⟩
      have e1 : keys (A1 ++ (b', ((pre ++ c2 ++ post).toArray, e)) :: A2 ++ hand' ++ B) = (keys A1 ++ b' :: keys A2) ++ keys hand' ++ keys B := by simp [keys]
      have e2 : keys (A1 ++ (b', cc, e) :: A2 ++ h1 ++ B) = (keys A1 ++ b' :: keys A2) ++ keys h1 ++ keys B := by simp [keys]
      rw [e1]; rw [e2] at hnf'
      have djC : ∀ k ∈ keys hand', k ∉ M ∧ k ∉ (keys A1 ++ b' :: keys A2) ∧ k ∉ keys B := fun k hk => by
        obtain ⟨d1, d2, d3, d4, d5⟩ := djB k hk
        exact ⟨d1, by simp only [List.mem_append, List.mem_cons, not_or]; exact ⟨d2, d3, d4⟩, d5⟩
      generalize (keys A1 ++ b' :: keys A2) = L at hnf' djC ⊢
      simp only [List.nodup_append, List.mem_append] at hnf' ⊢
      refine ⟨hnf'.1, ⟨⟨hnf'.2.1.1.1, ndh, fun x hx z hz ek => (djC z hz).2.1 (ek ▸ hx)⟩, hnf'.2.1.2.1, fun x hx z hz ek => ?_⟩, fun x hx z hz ek => ?_⟩
      · rcases hx with hx | hx
        · exact hnf'.2.1.2.2 x (.inl hx) z hz ek
        · exact (djC x hx).2.2 (ek ▸ hz)
      · rcases hz with (hz | hz) | hz
        · exact hnf'.2.2 x hx z (.inl (.inl hz)) ek
        · exact (djC z hz).1 (ek ▸ hx)
        · exact hnf'.2.2 x hx z (.inr hz) ek
    · show Rep _ Im b.t b.m (cput b.t b.x q y) rb.cs _
      cases hf : fl with
      | false =>
        have := hm hf h0
        subst this
        exact p3 _ Im gr y c2 hand' (hrep.grow gr)
      | true =>
        obtain ⟨f1, f2⟩ := flat_any (by rw [← hfl]; exact hf) hrep
        rw [f1]; exact p3 _ Im gr y c2 [] ((f2 _).grow gr)
    · refine special { b with x := cput b.t b.x q y } { rb with h := A1 ++ (b', ((pre ++ c2 ++ post).toArray, e)) :: A2 ++ hand' ++ B } _ rfl rfl rfl ?_ ?_ Pp (fun h => by simp only [Pp]; rw [if_pos h]) (fun h => by simp only [Pp]; rw [if_neg (by simp [h])])
      · intro q2 hv2 hc ht
        exact (p4 _ c2 hl3 hb' hw' y q2 hv2 (hc.imp (fun h => by rw [← hfl]; exact h) id)).1
      · intro q2 hv2 hc
        have := (p4 _ c2 hl3 hb' hw' y q2 hv2 (hc.imp (fun h => by rw [← hfl]; exact h) id)).2
        intro c ad2 hn2
        obtain ⟨c', k1, k2⟩ := this c ad2 hn2
        exact ⟨c', k1, fun ht hs => k2 ht (hs.imp (fun h => by rw [← hfl]; exact h) id)⟩
end
end Go.Proofs.Ytlgbhaigpecdoaa.V
