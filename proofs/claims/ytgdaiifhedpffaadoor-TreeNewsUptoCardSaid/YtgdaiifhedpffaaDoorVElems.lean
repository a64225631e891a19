/- Memory: taken, made, stored, appended, built. -/
import Derived.Test.YtgdaiifhedpffaaDoorVWhole
import Derived.Deep.Upon
import Derived.Great.BuildSlice
set_option linter.unusedVariables false
set_option linter.unusedSimpArgs false
namespace Go.Proofs.YtgdaiifhedpffaaDoor.V
open Go
theorem bget_bset (i : Nat) (b : Bx) : ∀ (l : List (Nat × Bx)) (j : Nat), bget (bset i b l) j = if j = i then some b else bget l j
  | [], j => by simp [bset, bget]
  | (k, c) :: l, j => by
    simp only [bset]
    split
    · rename_i h
      simp only [bget]
    · split
      · rename_i h1 h2; subst h2
        simp only [bget]
        split <;> rfl
      · rename_i h1 h2
        simp only [bget, bget_bset i b l j]
        by_cases hj : j = k
        · subst hj; simp [Ne.symm h2]
        · simp [hj]
section
variable {G : Gl} {O O' : Nat → Frag} {w w' : World} {Im Im' : Nat → Prop}
theorem Sep.redis (h : Sep G O w Im) (nod : ∀ i, (keys (O' i)).Nodup) (sep : ∀ i j, i ≠ j → ∀ k ∈ keys (O' i), k ∉ keys (O' j)) (sub : ∀ i, ∀ p ∈ O' i, ∃ j, p ∈ O j) : Sep G O' w Im :=
  ⟨nod, sep, fun i p hp => (sub i p hp).elim fun j hj => h.heap j p hj,
    fun i k hk => by obtain ⟨p, hp, e⟩ := keys_mem.1 hk; obtain ⟨j, hj⟩ := sub i p hp; exact h.im j k (keys_mem.2 ⟨p, hj, e⟩),
    fun i k hk => by obtain ⟨p, hp, e⟩ := keys_mem.1 hk; obtain ⟨j, hj⟩ := sub i p hp; exact h.fresh j k (keys_mem.2 ⟨p, hj, e⟩), h.imlt, h.imok⟩
theorem Sep.lt (h : Sep G O w Im) {i k : Nat} (hk : k ∈ keys (O i)) : k < w.heap.size := by
  obtain ⟨p, hp, rfl⟩ := keys_mem.1 hk
  exact (Array.getElem?_eq_some_iff.1 (h.heap i p hp)).1
theorem Sep.allocO (h : Sep G O w Im) (hk : Keep G w) (o : Obj) (h0 : O' 0 = O 0 ++ [(w.heap.size, o)]) (hi : ∀ i, O' (i + 1) = O (i + 1)) : Sep G O' (w.alloc o) Im := by
  have hne : ∀ i, w.heap.size ∉ keys (O i) := fun i hm => Nat.lt_irrefl _ (h.lt hm)
  refine ⟨fun i => ?_, fun i j hij k hk1 hk2 => ?_, fun i p hp => ?_, fun i k hk1 => ?_, fun i k hk1 => ?_, fun k hk1 => ?_, h.imok⟩
  · cases i with
    | zero =>
      rw [h0, keys_append]
      refine List.nodup_append.2 ⟨h.nod 0, by simp [keys], ?_⟩
      intro a ha b hb; simp [keys] at hb; subst hb
      intro e; subst e; exact hne 0 ha
    | succ i => rw [hi]; exact h.nod _
  · cases i with
    | zero =>
      cases j with
      | zero => exact hij rfl
      | succ j =>
        rw [hi] at hk2; rw [h0, keys_append] at hk1
        rcases List.mem_append.1 hk1 with h1 | h1
        · exact h.sep 0 (j + 1) (by simp) k h1 hk2
        · simp [keys] at h1; subst h1; exact hne _ hk2
    | succ i =>
      rw [hi] at hk1
      cases j with
      | zero =>
        rw [h0, keys_append] at hk2
        rcases List.mem_append.1 hk2 with h1 | h1
        · exact h.sep (i + 1) 0 (by simp) k hk1 h1
        · simp [keys] at h1; subst h1; exact hne _ hk1
      | succ j => rw [hi] at hk2; exact h.sep _ _ hij k hk1 hk2
  · have old : ∀ i, ∀ p ∈ O i, (w.alloc o).heap[p.1]? = some p.2 := fun i p hp => by
      rw [Go.heap_alloc_old w _ (h.lt (keys_mem.2 ⟨p, hp, rfl⟩))]; exact h.heap i p hp
    cases i with
    | zero =>
      rw [h0] at hp
      rcases List.mem_append.1 hp with h1 | h1
      · exact old 0 p h1
      · simp at h1; subst h1; exact Go.heap_alloc_new w _
    | succ i => rw [hi] at hp; exact old _ p hp
  · cases i with
    | zero =>
      rw [h0, keys_append] at hk1
      rcases List.mem_append.1 hk1 with h1 | h1
      · exact h.im 0 k h1
      · simp [keys] at h1; subst h1; intro hh; exact Nat.lt_irrefl _ (h.imlt _ hh)
    | succ i => rw [hi] at hk1; exact h.im _ k hk1
  · cases i with
    | zero =>
      rw [h0, keys_append] at hk1
      rcases List.mem_append.1 hk1 with h1 | h1
      · exact h.fresh 0 k h1
      · simp [keys] at h1; subst h1; exact .inl hk.size
    | succ i => rw [hi] at hk1; exact h.fresh _ k hk1
  · have := h.imlt k hk1
    show k < (w.heap.push _).size
    simp; omega
theorem Sep.alloc (h : Sep G O w Im) (hk : Keep G w) (c : Array Value) (e : TypeId) (h0 : O' 0 = O 0 ++ [(w.heap.size, .cells c e)]) (hi : ∀ i, O' (i + 1) = O (i + 1)) : Sep G O' (w.alloc (.cells c e)) Im := h.allocO hk _ h0 hi
theorem Keep.alloc (h : Keep G w) (o : Obj) : Keep G (w.alloc o) :=
  ⟨h.os, h.tape, h.output, by show _ ≤ (w.heap.push o).size; simp; have := h.size; omega, fun b hb hk => by rw [Go.heap_alloc_old w o (by have := h.size; omega)]; exact h.block b hb hk⟩
theorem Keep.drew (h : Keep G w) : Keep G w.drew := ⟨h.os, h.tape, h.output, h.size, h.block⟩
theorem Grow.alloc (h : ∀ b, Im b → b < w.heap.size) (o : Obj) : Grow w (w.alloc o) Im Im := ⟨fun _ h => h, fun b hb => Go.heap_alloc_old w o (h b hb)⟩
end
section
variable {G : Gl} {st : St} {vs : Array Value} {w w' : World} {Im Im' : Nat → Prop} {R R' : Real} {hand hand' : Frag}
theorem RefOK.same {r : Nat} {q : Path} {v : Value} (hr : R' r = R r) (hrep : ∀ b rb, R r = some (b, rb) → Rep w Im b.t b.m b.x rb.cs rb.h) (hh : ∀ b rb, R r = some (b, rb) → HeapOK w rb.h)
    (hk : ∀ b rb, R r = some (b, rb) → ∀ k ∈ keys rb.h, w'.heap[k]? = w.heap[k]?) (h : RefOK w R r q v) : RefOK w' R' r q v := by
  intro b rb hb
  rw [hr] at hb
  obtain ⟨hv, ht, ad, hn⟩ := h b rb hb
  exact ⟨hv, ht, ad, by rw [nav_frame q hv (hrep b rb hb) (hh b rb hb) (hk b rb hb)]; exact hn⟩
theorem SubOK.same {r : Nat} {q : Path} {lo n : Nat} {v : Value} (hr : R' r = R r) (hrep : ∀ b rb, R r = some (b, rb) → Rep w Im b.t b.m b.x rb.cs rb.h) (hh : ∀ b rb, R r = some (b, rb) → HeapOK w rb.h)
    (hk : ∀ b rb, R r = some (b, rb) → ∀ k ∈ keys rb.h, w'.heap[k]? = w.heap[k]?) (h : SubOK w R r q lo n v) : SubOK w' R' r q lo n v := by
  obtain ⟨u, h1, h2⟩ := h
  exact ⟨u, h1.same hr hrep hh hk, fun b rb hb => h2 b rb (by rw [← hr]; exact hb)⟩
theorem PtrOK.same {r : Nat} {q : Path} {v : Value} (hr : R' r = R r) (hrep : ∀ b rb, R r = some (b, rb) → Rep w Im b.t b.m b.x rb.cs rb.h) (hh : ∀ b rb, R r = some (b, rb) → HeapOK w rb.h)
    (hk : ∀ b rb, R r = some (b, rb) → ∀ k ∈ keys rb.h, w'.heap[k]? = w.heap[k]?) (h : PtrOK w R r q v) : PtrOK w' R' r q v := by
  intro b rb hb
  rw [hr] at hb
  obtain ⟨hv, cs, b', o, hn, e⟩ := h b rb hb
  exact ⟨hv, cs, b', o, by rw [nav_frame q hv (hrep b rb hb) (hh b rb hb) (hk b rb hb)]; exact hn, e⟩
theorem Inv.sv (h : Inv G st vs w Im R hand) (g : Grow w w' Im Im') {p : Bool → Nat → Path → Bool}
    (hs : ∀ r, (R' r = R r ∧ ∀ b rb, R r = some (b, rb) → ∀ k ∈ keys rb.h, w'.heap[k]? = w.heap[k]?) ∨
      ((∀ q v, p false r q = false → RefOK w R r q v → RefOK w' R' r q v) ∧ (∀ q lo n v, p false r q = false → SubOK w R r q lo n v → SubOK w' R' r q lo n v) ∧ (∀ q v, p true r q = false → PtrOK w R r q v → PtrOK w' R' r q v))) :
    (∀ {s : SV} {b : Bool} {cs : List Value}, SVX w Im R s b cs → SVX w' Im' R' (forget p s) b cs) ∧ (∀ {s : SV} {v : Value}, SVV w Im R s v → SVV w' Im' R' (forget p s) v) := by
  have h1 : ∀ r q v, p false r q = false → RefOK w R r q v → RefOK w' R' r q v := fun r q v hp hh => by
    rcases hs r with ⟨e, k⟩ | k
    · exact hh.same e (h.rep r) (fun b rb hb p hp => h.heapOK hb p (fragOf_sub p hp)) k
    · exact k.1 q v hp hh
  have h2 : ∀ r q lo n v, p false r q = false → SubOK w R r q lo n v → SubOK w' R' r q lo n v := fun r q lo n v hp hh => by
    rcases hs r with ⟨e, k⟩ | k
    · exact hh.same e (h.rep r) (fun b rb hb p hp => h.heapOK hb p (fragOf_sub p hp)) k
    · exact k.2.1 q lo n v hp hh
  have h3 : ∀ r q v, p true r q = false → PtrOK w R r q v → PtrOK w' R' r q v := fun r q v hp hh => by
    rcases hs r with ⟨e, k⟩ | k
    · exact hh.same e (h.rep r) (fun b rb hb p hp => h.heapOK hb p (fragOf_sub p hp)) k
    · exact k.2.2 q v hp hh
  exact ⟨fun hx => hx.forget g.im g.heap h1 h2 h3, fun hx => hx.forget g.im g.heap h1 h2 h3⟩
theorem own_zero : own R hand 0 = hand := rfl
theorem own_at {i : Nat} {b : Bx} {rb : RB} (h : R i = some (b, rb)) : own R hand (i + 1) = fragOf b rb := by simp [own, h]
theorem Inv.world (h : Inv G st vs w Im R hand) (hw : ∀ k, k < w.heap.size → w'.heap[k]? = w.heap[k]?) (hsz : w.heap.size ≤ w'.heap.size) (hk : Keep G w') : Inv G st vs w' Im R hand := by
  have g : Grow w w' Im Im := ⟨fun _ h => h, fun b hb => hw b (h.sep.imlt b hb)⟩
  have hs := h.sv g (R' := R) (p := fun _ _ _ => false) (fun r => .inl ⟨rfl, fun b rb hb k hk' => hw k (by
    have : k ∈ keys (own R hand (r + 1)) := by rw [own_at hb]; obtain ⟨p, hp, e⟩ := keys_mem.1 hk'; exact keys_mem.2 ⟨p, fragOf_sub p hp, e⟩
    exact h.sep.lt this)⟩)
  refine ⟨h.box, fun i b r hb => (h.rep i b r hb).grow g, ?_, fun n => ?_, h.len, hk, h.row⟩
  · exact ⟨h.sep.nod, h.sep.sep, fun i p hp => by rw [hw _ (h.sep.lt (keys_mem.2 ⟨p, hp, rfl⟩))]; exact h.sep.heap i p hp, h.sep.im, h.sep.fresh, fun k hk => Nat.lt_of_lt_of_le (h.sep.imlt k hk) hsz, h.sep.imok⟩
  · have := hs.2 (h.slots n); rwa [forget_none] at this
theorem Inv.drew (h : Inv G st vs w Im R hand) : Inv G st vs w.drew Im R hand := h.world (fun _ _ => rfl) (Nat.le_refl _) h.keep.drew
theorem Inv.allocO (h : Inv G st vs w Im R hand) (o : Obj) : Inv G st vs (w.alloc o) Im R (hand ++ [(w.heap.size, o)]) := by
  have h1 := h.world (w' := w.alloc o) (fun k hk => Go.heap_alloc_old w _ hk) (by show _ ≤ (w.heap.push _).size; simp) (h.keep.alloc _)
  refine ⟨h.box, h1.rep, ?_, h1.slots, h.len, h1.keep, h.row⟩
  exact h.sep.allocO h.keep o rfl (fun i => rfl)
theorem Inv.alloc (h : Inv G st vs w Im R hand) (c : Array Value) (e : TypeId) : Inv G st vs (w.alloc (.cells c e)) Im R (hand ++ [(w.heap.size, .cells c e)]) := by
  have h1 := h.world (w' := w.alloc (.cells c e)) (fun k hk => Go.heap_alloc_old w _ hk) (by show _ ≤ (w.heap.push _).size; simp) (h.keep.alloc _)
  refine ⟨h.box, h1.rep, ?_, h1.slots, h.len, h1.keep, h.row⟩
  exact h.sep.alloc h.keep c e rfl (fun i => rfl)
theorem Inv.drop (h : Inv G st vs w Im R (hand ++ hand')) : Inv G st vs w Im R hand := by
  refine ⟨h.box, h.rep, h.sep.redis (fun i => ?_) (fun i j hij k h1 h2 => ?_) (fun i p hp => ?_), h.slots, h.len, h.keep, h.row⟩
  · cases i with
    | zero => have := h.sep.nod 0; rw [own_zero, keys_append] at this; exact (List.nodup_append.1 this).1
    | succ i => exact h.sep.nod (i + 1)
  · have m : ∀ i, k ∈ keys (own R hand i) → k ∈ keys (own R (hand ++ hand') i) := fun i hk => by
      cases i with
      | zero => rw [own_zero, keys_append]; exact List.mem_append_left _ hk
      | succ i => exact hk
    exact h.sep.sep i j hij k (m i h1) (m j h2)
  · cases i with
    | zero => exact ⟨0, List.mem_append_left _ hp⟩
    | succ i => exact ⟨i + 1, hp⟩
theorem Inv.freeze (h : Inv G st vs w Im R (hand ++ hand')) : Inv G st vs w (fun k => Im k ∨ k ∈ keys hand') R hand ∧ Grow w w Im (fun k => Im k ∨ k ∈ keys hand') := by
  have g : Grow w w Im (fun k => Im k ∨ k ∈ keys hand') := ⟨fun _ h => .inl h, fun _ _ => rfl⟩
  have hd := h.drop
  have hs := h.sv g (R' := R) (p := fun _ _ _ => false) (fun r => .inl ⟨rfl, fun _ _ _ _ _ => rfl⟩)
  refine ⟨⟨h.box, fun i b r hb => (h.rep i b r hb).grow g, ⟨hd.sep.nod, hd.sep.sep, hd.sep.heap, fun i k hk => ?_, hd.sep.fresh, fun k hk => ?_, fun k hk => hk.elim (h.sep.imok k) (fun hk => .inr (h.sep.fresh 0 k (by rw [own_zero, keys_append]; exact List.mem_append_right _ hk)))⟩, fun n => ?_, h.len, h.keep, h.row⟩, g⟩
  · rintro (h1 | h1)
    · exact hd.sep.im i k hk h1
    · cases i with
      | zero =>
        have := h.sep.nod 0
        rw [own_zero, keys_append] at this
        exact (List.nodup_append.1 this).2.2 k hk k h1 rfl
      | succ i =>
        exact h.sep.sep (i + 1) 0 (by simp) k hk (by rw [own_zero, keys_append]; exact List.mem_append_right _ h1)
  · rcases hk with h1 | h1
    · exact hd.sep.imlt k h1
    · exact h.sep.lt (i := 0) (by rw [own_zero, keys_append]; exact List.mem_append_right _ h1)
  · have := hs.2 (h.slots n); rwa [forget_none] at this
theorem Inv.lay (h : Inv G st vs w Im R (hand ++ hand')) (i : Nat) {b : Bx} {rb : RB} (hr : Rep w Im b.t b.m b.x rb.cs rb.h) (hf : fragOf b rb = hand') (hw : RowOk G b rb := by exact RowOk.no rfl) :
    Inv G (st.lay i b) vs w Im (fun j => if j = i then some (b, rb) else R j) hand := by
  have hs := h.sv (Grow.refl w Im) (R' := fun j => if j = i then some (b, rb) else R j) (p := fun _ s _ => decide (s = i)) (fun r => by
    by_cases e : r = i
    · subst e; exact .inr ⟨fun q v hp => by simp at hp, fun q lo n v hp => by simp at hp, fun q v hp => by simp at hp⟩
    · exact .inl ⟨by simp [e], fun _ _ _ _ _ => rfl⟩)
  refine ⟨fun j => ?_, fun j b' r' hb => ?_, h.sep.redis (fun j => ?_) (fun j l hjl k h1 h2 => ?_) (fun j p hp => ?_), fun n => ?_, ?_, h.keep, fun j b' r' hb => ?_⟩
  · show bget (bset i b st.boxes) j = _
    rw [bget_bset]
    split
    · simp
    · exact h.box j
  · have hb : (if j = i then some (b, rb) else R j) = some (b', r') := hb
    split at hb
    · cases hb; exact hr
    · exact h.rep j b' r' hb
  · cases j with
    | zero => have := h.sep.nod 0; rw [own_zero, keys_append] at this; exact (List.nodup_append.1 this).1
    | succ j =>
      simp only [own]
      by_cases e : j = i
      · rw [if_pos e]; show (keys (fragOf b rb)).Nodup; have := h.sep.nod 0; rw [own_zero, keys_append] at this; rw [hf]; exact (List.nodup_append.1 this).2.1
      · rw [if_neg e]; exact h.sep.nod (j + 1)
  · have m : ∀ j, k ∈ keys (own (fun j => if j = i then some (b, rb) else R j) hand j) → ((j = 0 ∧ k ∈ keys hand) ∨ (j = i + 1 ∧ k ∈ keys hand') ∨ (j ≠ i + 1 ∧ j ≠ 0 ∧ k ∈ keys (own R (hand ++ hand') j))) := by
      intro j hk
      cases j with
      | zero => exact .inl ⟨rfl, hk⟩
      | succ j =>
        simp only [own] at hk
        by_cases e : j = i
        · rw [if_pos e] at hk; have hk : k ∈ keys (fragOf b rb) := hk; rw [hf] at hk; exact .inr (.inl ⟨by rw [e], hk⟩)
        · rw [if_neg e] at hk; exact .inr (.inr ⟨by simpa using e, by simp, hk⟩)
    have n0 := h.sep.nod 0
    rw [own_zero, keys_append] at n0
    have dj := (List.nodup_append.1 n0).2.2
    have z : ∀ j, j ≠ 0 → k ∈ keys (own R (hand ++ hand') j) → k ∉ keys hand ∧ k ∉ keys hand' := fun j hj hk => by
      have := h.sep.sep j 0 hj k hk
      rw [own_zero, keys_append] at this
      exact ⟨fun h => this (List.mem_append_left _ h), fun h => this (List.mem_append_right _ h)⟩
    rcases m j h1 with ⟨e1, a1⟩ | ⟨e1, a1⟩ | ⟨e1, e1', a1⟩ <;> rcases m l h2 with ⟨e2, a2⟩ | ⟨e2, a2⟩ | ⟨e2, e2', a2⟩
    · exact hjl (e1.trans e2.symm)
    · exact dj k a1 k a2 rfl
    · exact (z l e2' a2).1 a1
    · exact dj k a2 k a1 rfl
    · exact hjl (e1.trans e2.symm)
    · exact (z l e2' a2).2 a1
    · exact (z j e1' a1).1 a2
    · exact (z j e1' a1).2 a2
    · exact h.sep.sep j l hjl k a1 a2
  · cases j with
    | zero => exact ⟨0, List.mem_append_left _ hp⟩
    | succ j =>
      simp only [own] at hp
      by_cases e : j = i
      · rw [if_pos e] at hp; have hp : p ∈ fragOf b rb := hp; rw [hf] at hp; exact ⟨0, List.mem_append_right _ hp⟩
      · rw [if_neg e] at hp; exact ⟨j + 1, hp⟩
  · show SVV w Im _ (sget (st.slots.map (killAll i)) n) _
    rw [show killAll i = forget fun _ s _ => decide (s = i) from rfl, sget_map]
    exact hs.2 (h.slots n)
  · show (st.slots.map (killAll i)).length = vs.size
    rw [List.length_map]; exact h.len
  · have hb : (if j = i then some (b, rb) else R j) = some (b', r') := hb
    split at hb
    · cases hb; exact hw
    · exact h.row j b' r' hb
end
end Go.Proofs.YtgdaiifhedpffaaDoor.V
set_option linter.unusedVariables false
set_option linter.unusedSimpArgs false
namespace Go.Proofs.YtgdaiifhedpffaaDoor.V
open Go
theorem cput_cget : ∀ (q : Path) {t : Ty} {m : Md} {x : den t}, Valid t x m q → lev q = 0 → cput t x q (cget t x q) = x
  | [], _, _, _, _, _ => rfl
  | s :: q, t, m, x, ⟨hs, hv⟩, h0 => by
    cases t <;> cases s <;> simp only [VStep] at hs <;> (try exact hs.elim)
    case pair.fst a b =>
      show (cput a x.1 q (cget a x.1 q), x.2) = x
      exact congrArg (fun y => (y, x.2)) (cput_cget q (t := a) (x := x.1) hv h0)
    case pair.snd a b =>
      show (x.1, cput b x.2 q (cget b x.2 q)) = x
      exact congrArg (fun y => (x.1, y)) (cput_cget q (t := b) (x := x.2) hv h0)
    case slc.idx t i => simp [lev] at h0
theorem forget_forget (p : Bool → Nat → Path → Bool) (s : SV) : forget p (forget p s) = forget p s := by
  induction s with
  | agg a b iha ihb => simp [V.forget, iha, ihb]
  | tcons a b iha ihb => simp [V.forget, iha, ihb]
  | fn f c ih => simp [V.forget, ih]
  | ref r q => simp only [V.forget]; split <;> simp_all [V.forget]
  | sub r q lo n => simp only [V.forget]; split <;> simp_all [V.forget]
  | ptr r q => simp only [V.forget]; split <;> simp_all [V.forget]
  | _ => rfl
theorem shallow_shallow (s : SV) : shallow (shallow s) = shallow s := forget_forget _ s
section
variable {G : Gl} {st : St} {vs : Array Value} {w : World} {Im : Nat → Prop} {R : Real} {hand : Frag}
theorem split_keys {A h1 B : Frag} (hn : (keys (A ++ h1 ++ B)).Nodup) : (keys (A ++ B)).Nodup ∧ (keys h1).Nodup ∧ ∀ k ∈ keys (A ++ B), k ∉ keys h1 := by
  simp only [keys_append] at hn ⊢
  obtain ⟨n1, n2, n3⟩ := List.nodup_append.1 hn
  obtain ⟨n4, n5, n6⟩ := List.nodup_append.1 n1
  refine ⟨List.nodup_append.2 ⟨n4, n2, fun a ha b hb => n3 a (List.mem_append_left _ ha) b hb⟩, n5, fun k hk hk2 => ?_⟩
  rcases List.mem_append.1 hk with h | h
  · exact n6 k h k hk2 rfl
  · exact n3 k (List.mem_append_right _ hk2) k h rfl
theorem Inv.give (h : Inv G st vs w Im R hand) {r : Nat} {b b' : Bx} {rb rb' : RB} {A h1 B : Frag} (hr : R r = some (b, rb)) (e : rb.h = A ++ h1 ++ B) (hb : b'.mem = b.mem) (hcs : rb'.cs = rb.cs) (hbk : blkOf b' rb' = blkOf b rb) (e' : rb'.h = A ++ B)
    (hrep : Rep w Im b'.t b'.m b'.x rb'.cs rb'.h) {p : Bool → Nat → Path → Bool} {st' : St} (hbox : ∀ j, bget st'.boxes j = if j = r then some b' else bget st.boxes j) (hsl : st'.slots = st.slots.map (forget p))
    (hs : (∀ q v, p false r q = false → RefOK w R r q v → RefOK w (fun j => if j = r then some (b', rb') else R j) r q v) ∧ (∀ q lo n v, p false r q = false → SubOK w R r q lo n v → SubOK w (fun j => if j = r then some (b', rb') else R j) r q lo n v) ∧
      (∀ q v, p true r q = false → PtrOK w R r q v → PtrOK w (fun j => if j = r then some (b', rb') else R j) r q v)) (hrow : b'.row = b.row := by rfl) (htyy : b'.t = b.t := by rfl) :
    Inv G st' vs w Im (fun j => if j = r then some (b', rb') else R j) (hand ++ h1) ∧ (∀ {s : SV} {bb : Bool} {cs : List Value}, SVX w Im R s bb cs → SVX w Im (fun j => if j = r then some (b', rb') else R j) (forget p s) bb cs) := by
  have hsv := h.sv (Grow.refl w Im) (R' := fun j => if j = r then some (b', rb') else R j) (p := p) (fun j => by
    by_cases ej : j = r
    · subst ej; exact .inr hs
    · exact .inl ⟨by simp [ej], fun _ _ _ _ _ => rfl⟩)
  have hf : ∀ q ∈ fragOf b' rb', q ∈ fragOf b rb := by
    intro q hq; unfold fragOf at hq ⊢; rw [hb, hcs, hbk, e'] at hq
    cases hm : b.mem with
    | none => rw [hm] at hq; simp only at hq ⊢; rw [e]; simp at hq ⊢; rcases hq with hq | hq <;> simp [hq]
    | some ty => rw [hm] at hq; simp only at hq ⊢; rw [e]; simp at hq ⊢; rcases hq with hq | hq | hq <;> simp [hq]
  have hnf := h.nodup hr
  have hfn : (keys (fragOf b' rb')).Nodup ∧ (keys h1).Nodup ∧ ∀ k ∈ keys (fragOf b' rb'), k ∉ keys h1 := by
    unfold fragOf at hnf ⊢; rw [hb, hcs, hbk, e']; rw [e] at hnf
    cases hm : b.mem with
    | none => rw [hm] at hnf; exact split_keys hnf
    | some ty =>
      rw [hm] at hnf
      have := split_keys (A := (blkOf b rb, .cells rb.cs.toArray ty) :: A) (h1 := h1) (B := B) (by simpa using hnf)
      simpa using this
  have hh1 : ∀ q ∈ h1, q ∈ fragOf b rb := fun q hq => fragOf_sub q (by rw [e]; simp [hq])
  refine ⟨⟨fun j => ?_, fun j b2 r2 hb2 => ?_, h.sep.redis (fun j => ?_) (fun j l hjl k k1 k2 => ?_) (fun j q hq => ?_), fun n => ?_, ?_, h.keep, fun j b2 r2 hb2 => ?_⟩, hsv.1⟩
  · rw [hbox]; split
    · simp
    · exact h.box j
  · have hb2 : (if j = r then some (b', rb') else R j) = some (b2, r2) := hb2
    split at hb2
    · cases hb2; exact hrep
    · exact h.rep j b2 r2 hb2
  · cases j with
    | zero =>
      show (keys (hand ++ h1)).Nodup
      rw [keys_append]
      refine List.nodup_append.2 ⟨h.sep.nod 0, hfn.2.1, fun a ha c hc e => ?_⟩
      subst e
      obtain ⟨q, hq, eq⟩ := keys_mem.1 hc
      exact h.sep.sep 0 (r + 1) (by simp) a ha (by rw [own_at hr]; exact keys_mem.2 ⟨q, hh1 q hq, eq⟩)
    | succ j =>
      simp only [own]
      by_cases ej : j = r
      · rw [if_pos ej]; exact hfn.1
      · rw [if_neg ej]; exact h.sep.nod (j + 1)
  · have m : ∀ j, k ∈ keys (own (fun j => if j = r then some (b', rb') else R j) (hand ++ h1) j) → ((j = 0 ∧ k ∈ keys hand) ∨ (j = 0 ∧ k ∈ keys h1) ∨ (j = r + 1 ∧ k ∈ keys (fragOf b' rb')) ∨ (j ≠ 0 ∧ j ≠ r + 1 ∧ k ∈ keys (own R hand j))) := by
      intro j hk
      cases j with
      | zero => rw [own_zero, keys_append] at hk; rcases List.mem_append.1 hk with hk | hk <;> simp [hk]
      | succ j =>
        simp only [own] at hk
        by_cases ej : j = r
        · rw [if_pos ej] at hk; exact .inr (.inr (.inl ⟨by rw [ej], hk⟩))
        · rw [if_neg ej] at hk; exact .inr (.inr (.inr ⟨by simp, by simpa using ej, hk⟩))
    have inb : ∀ {hh : Frag}, (∀ q ∈ hh, q ∈ fragOf b rb) → k ∈ keys hh → k ∈ keys (own R hand (r + 1)) := fun hs hk => by
      obtain ⟨q, hq, eq⟩ := keys_mem.1 hk; rw [own_at hr]; exact keys_mem.2 ⟨q, hs q hq, eq⟩
    rcases m j k1 with ⟨e1, a1⟩ | ⟨e1, a1⟩ | ⟨e1, a1⟩ | ⟨e1, e1', a1⟩ <;> rcases m l k2 with ⟨e2, a2⟩ | ⟨e2, a2⟩ | ⟨e2, a2⟩ | ⟨e2, e2', a2⟩
    · exact hjl (e1.trans e2.symm)
    · exact hjl (e1.trans e2.symm)
    · exact h.sep.sep 0 (r + 1) (by simp) k a1 (inb hf a2)
    · exact h.sep.sep 0 l (Ne.symm e2) k a1 a2
    · exact hjl (e1.trans e2.symm)
    · exact hjl (e1.trans e2.symm)
    · exact hfn.2.2 k a2 a1
    · exact h.sep.sep (r + 1) l (Ne.symm e2') k (inb hh1 a1) a2
    · exact h.sep.sep 0 (r + 1) (by simp) k a2 (inb hf a1)
    · exact hfn.2.2 k a1 a2
    · exact hjl (e1.trans e2.symm)
    · exact h.sep.sep (r + 1) l (Ne.symm e2') k (inb hf a1) a2
    · exact h.sep.sep j 0 e1 k a1 a2
    · exact h.sep.sep j (r + 1) e1' k a1 (inb hh1 a2)
    · exact h.sep.sep j (r + 1) e1' k a1 (inb hf a2)
    · exact h.sep.sep j l hjl k a1 a2
  · cases j with
    | zero =>
      rcases List.mem_append.1 hq with hq | hq
      · exact ⟨0, hq⟩
      · exact ⟨r + 1, by rw [own_at hr]; exact hh1 q hq⟩
    | succ j =>
      simp only [own] at hq
      by_cases ej : j = r
      · rw [if_pos ej] at hq; exact ⟨r + 1, by rw [own_at hr]; exact hf q hq⟩
      · rw [if_neg ej] at hq; exact ⟨j + 1, hq⟩
  · rw [hsl, sget_map]; exact hsv.2 (h.slots n)
  · rw [hsl, List.length_map]; exact h.len
  · have hb2 : (if j = r then some (b', rb') else R j) = some (b2, r2) := hb2
    split at hb2
    · cases hb2; exact (h.row r b rb hr).same hb hrow hcs htyy
    · exact h.row j b2 r2 hb2
theorem SVX.forget_more {R : Real} (p : Bool → Nat → Path → Bool) {s : SV} {b : Bool} {cs : List Value} (h : SVX w Im R s b cs) : SVX w Im R (V.forget p s) b cs :=
  h.forget (fun _ h => h) (fun _ _ => rfl) (fun _ _ _ _ h => h) (fun _ _ _ _ _ _ h => h) (fun _ _ _ _ h => h)
theorem Inv.take (h : Inv G st vs w Im R hand) {r : Nat} {q : Path} {b : Bx} {v : Value} (hb : bget st.boxes r = some b) (hv : RefOK w R r q v) (h0 : lev q = 0) {m : Md} (ht : isHd (ctype b.t q) = true) (hm : mget b.m q = .own m) :
    ∃ R' h1, Inv G (st.take r q b) vs w Im R' (hand ++ h1) ∧ Rep w Im (ctype b.t q) (mget b.m q) (cget b.t b.x q) [v] h1 ∧ (∀ {s : SV} {c : List Value}, SVX w Im R s false c → SVX w Im R' (shallow s) false c) ∧ (∀ j, j ≠ r → R' j = R j) := by
  obtain ⟨rb, hr⟩ := h.real hb
  obtain ⟨hval, hslc, ad, hn⟩ := hv b rb hr
  have main : ∃ R' h1, Inv G { slots := st.slots.map (kill1 r), boxes := bset r { b with m := mput b.m q .dead } st.boxes } vs w Im R' (hand ++ h1) ∧
      Rep w Im (ctype b.t q) (mget b.m q) (cget b.t b.x q) [v] h1 ∧ (∀ {s : SV} {c : List Value}, SVX w Im R s false c → SVX w Im R' (shallow s) false c) ∧ (∀ j, j ≠ r → R' j = R j) := by
    obtain ⟨cs', ad', A, h1, B, n1, n2, n3, n4, _⟩ := focus q (ad := locOf b rb) hval (h.rep r b rb hr) (fun p hp => h.heapOK hr p (fragOf_sub p hp)) (h.nodup' hr)
    rw [hn] at n1
    simp only [Option.some.injEq, Prod.mk.injEq] at n1
    obtain ⟨rfl, rfl⟩ := n1
    obtain ⟨pre, post, p1, p2, p3, p4, p5⟩ := n4 h0
    have hdead : Rep w Im (ctype b.t q) .dead (cget b.t b.x q) [v] [] := by
      have h1 := n3.one
      revert h1
      generalize cget b.t b.x q = X
      revert X ht
      generalize ctype b.t q = TT
      intro ht X h1
      cases TT <;> simp only [isHd, Bool.false_eq_true] at ht
      · exact ⟨⟨v, rfl, h1 v (List.mem_cons_self ..)⟩, rfl⟩
      · exact ⟨⟨v, rfl, h1 v (List.mem_cons_self ..)⟩, rfl⟩
    have hnew := p3 w Im (Grow.refl w Im) .dead _ _ _ hdead
    rw [cput_cget q hval h0] at hnew
    have hst : ∀ q', lev q' = 0 → Valid b.t b.x b.m q' → Valid b.t b.x (mput b.m q .dead) q' := fun q' h0' hv' => valid0 q' h0' hv'
    have := h.give (b' := { b with m := mput b.m q .dead }) (rb' := { rb with h := A ++ B }) (p := fun _ s q => decide (s = r) && !decide (lev q = 0)) (st' := { slots := st.slots.map (kill1 r), boxes := bset r { b with m := mput b.m q .dead } st.boxes })
      hr n2 rfl rfl rfl rfl (by rw [p1]; simpa using hnew) (fun j => by rw [bget_bset]) rfl
      ⟨fun q' v' hp hh => by
          intro b2 rb2 hb2
          simp only [if_true] at hb2; cases hb2
          have h0' : lev q' = 0 := by simpa using hp
          obtain ⟨hv', ht', ad2, hn2⟩ := hh b rb hr
          exact ⟨hst q' h0' hv', ht', ad2, hn2⟩,
       fun q' lo n v' hp ⟨u, hh, hsub⟩ => by
          have h0' : lev q' = 0 := by simpa using hp
          refine ⟨u, ?_, ?_⟩
          · intro b2 rb2 hb2
            simp only [if_true] at hb2; cases hb2
            obtain ⟨hv', ht', ad2, hn2⟩ := hh b rb hr
            exact ⟨hst q' h0' hv', ht', ad2, hn2⟩
          · intro b2 rb2 hb2
            simp only [if_true] at hb2; cases hb2
            exact hsub b rb hr,
       fun q' v' hp hh => by
          intro b2 rb2 hb2
          simp only [if_true] at hb2; cases hb2
          have h0' : lev q' = 0 := by simpa using hp
          obtain ⟨hv', cs2, b3, o, hn2, e⟩ := hh b rb hr
          exact ⟨hst q' h0' hv', cs2, b3, o, hn2, e⟩⟩
    refine ⟨_, h1, this.1, n3, fun {s c} hx => ?_, fun j hj => by simp [hj]⟩
    have h2 := h.sv (Grow.refl w Im) (R' := fun j => if j = r then some ({ b with m := mput b.m q .dead }, { rb with h := A ++ B }) else R j) (p := fun _ _ q => !decide (lev q = 0)) (fun j => by
      by_cases ej : j = r
      · subst ej
        exact .inr ⟨fun q' v' hp hh => by
            intro b2 rb2 hb2
            simp only [if_true] at hb2; cases hb2
            have h0' : lev q' = 0 := by simpa using hp
            obtain ⟨hv', ht', ad2, hn2⟩ := hh b rb hr
            exact ⟨hst q' h0' hv', ht', ad2, hn2⟩,
          fun q' lo n v' hp ⟨u, hh, hsub⟩ => by
            have h0' : lev q' = 0 := by simpa using hp
            refine ⟨u, ?_, ?_⟩
            · intro b2 rb2 hb2
              simp only [if_true] at hb2; cases hb2
              obtain ⟨hv', ht', ad2, hn2⟩ := hh b rb hr
              exact ⟨hst q' h0' hv', ht', ad2, hn2⟩
            · intro b2 rb2 hb2
              simp only [if_true] at hb2; cases hb2
              exact hsub b rb hr,
          fun q' v' hp hh => by
            intro b2 rb2 hb2
            simp only [if_true] at hb2; cases hb2
            have h0' : lev q' = 0 := by simpa using hp
            obtain ⟨hv', cs2, b3, o, hn2, e⟩ := hh b rb hr
            exact ⟨hst q' h0' hv', cs2, b3, o, hn2, e⟩⟩
      · exact .inl ⟨by simp [ej], fun _ _ _ _ _ => rfl⟩)
    exact h2.1 hx
  exact main
end
end Go.Proofs.YtgdaiifhedpffaaDoor.V
set_option linter.unusedVariables false
set_option linter.unusedSimpArgs false
namespace Go.Proofs.YtgdaiifhedpffaaDoor.V
open Go
section
variable {G : Gl} {st : St} {vs : Array Value} {w : World} {Im Im' : Nat → Prop} {R R' : Real} {hand hand' : Frag} {T : Type} {r0 : T}
theorem Inv.less (h : Inv G st vs w Im R (hand ++ hand')) {h2 : Frag} (hs : List.Sublist h2 hand') : Inv G st vs w Im R (hand ++ h2) := by
  have hk : List.Sublist (keys h2) (keys hand') := hs.map _
  refine ⟨h.box, h.rep, h.sep.redis (fun i => ?_) (fun i j hij k h1 h2 => ?_) (fun i p hp => ?_), h.slots, h.len, h.keep, h.row⟩
  · cases i with
    | zero =>
      have := h.sep.nod 0
      rw [own_zero, keys_append] at this ⊢
      exact this.sublist (List.Sublist.append (List.Sublist.refl _) hk)
    | succ i => exact h.sep.nod (i + 1)
  · have m : ∀ i, k ∈ keys (own R (hand ++ _) i) → k ∈ keys (own R (hand ++ hand') i) := fun i hk' => by
      cases i with
      | zero =>
        rw [own_zero, keys_append] at hk' ⊢
        rcases List.mem_append.1 hk' with h | h
        · exact List.mem_append_left _ h
        · exact List.mem_append_right _ (hk.subset h)
      | succ i => exact hk'
    exact h.sep.sep i j hij k (m i h1) (m j h2)
  · cases i with
    | zero =>
      rcases List.mem_append.1 hp with h | h
      · exact ⟨0, List.mem_append_left _ h⟩
      · exact ⟨0, List.mem_append_right _ (hs.subset h)⟩
    | succ i => exact ⟨i + 1, hp⟩
theorem SVX.grow (g : Grow w w Im Im') {s : SV} {b : Bool} {cs : List Value} (h : SVX w Im R s b cs) : SVX w Im' R s b cs :=
  h.same g.im g.heap (fun _ _ _ h => h) (fun _ _ _ _ _ h => h) (fun _ _ _ h => h)
theorem Rep.ownPart {t : Ty} {m : Md} {xs : List (den t)} {A A' : Option Addr} {len cap cap' lo n : Nat} {h : Frag} (r : Rep w Im (.slc t) (.own m) xs [.slice A len cap] h) (h1 : lo + n ≤ len) (h2 : n ≤ cap') (h4 : lo + cap' ≤ cap)
    (h3 : 0 < cap' → A' = A.map fun a => a.add (lo * sz t)) : ∃ h', Rep w Im (.slc t) (.own m) ((xs.drop lo).take n) [.slice A' n cap'] h' ∧ List.Sublist h' h := by
  rcases Nat.eq_zero_or_pos cap' with h0 | h0
  · subst h0
    have : n = 0 := by omega
    subst this
    exact ⟨[], .inl ⟨by simp, ⟨A', rfl⟩, rfl⟩, List.nil_sublist _⟩
  · rcases r with ⟨e0, ⟨B, e⟩, _⟩ | ⟨b, o, c, el, cap2, h', e1, e2, e3, e4, e5, e6⟩
    · simp at e; omega
    · simp at e1
      obtain ⟨rfl, rfl, rfl⟩ := e1
      subst e2
      have hA := h3 h0
      simp only [Option.map_some, add_at] at hA
      obtain ⟨g1, g2, d1, s1, s2⟩ := RepL.split (n := sz t) (fun _ _ _ r => r.len) lo e6 (by omega)
      obtain ⟨g3, g4, d2, s3, s4⟩ := RepL.split (n := sz t) (fun _ _ _ r => r.len) n s2 (by simp; omega)
      subst d2; subst d1
      rw [List.drop_drop] at s3
      refine ⟨(b, .cells c el) :: g3, .inr ⟨b, o + lo * sz t, c, el, cap', g3, ?_, rfl, ?_, by omega, ?_, s3⟩, ?_⟩
      · rw [hA]; simp; omega
      · simp; omega
      · have : (lo + cap') * sz t ≤ cap * sz t := Nat.mul_le_mul_right _ h4
        rw [Nat.add_mul] at this; omega
      · refine List.Sublist.cons_cons _ ?_
        have : List.Sublist g3 (g3 ++ g4) := List.sublist_append_left _ _
        exact this.trans (List.sublist_append_right _ _)
theorem roots_forget (p : Bool → Nat → Path → Bool) (s : SV) : ∀ j, j ∈ roots (forget p s) → j ∈ roots s := by
  induction s with
  | agg a b iha ihb => intro j; simp only [V.forget, roots, List.mem_append]; exact fun h => h.imp (iha j) (ihb j)
  | tcons a b iha ihb => intro j; simp only [V.forget, roots, List.mem_append]; exact fun h => h.imp (iha j) (ihb j)
  | fn f c ih => intro j; simp only [V.forget, roots]; exact ih j
  | ref r q => intro j; simp only [V.forget]; split <;> simp [roots]
  | sub r q lo n => intro j; simp only [V.forget]; split <;> simp [roots]
  | ptr r q => intro j; simp only [V.forget]; split <;> simp [roots]
  | _ => intro j h; exact h
theorem rowAt_some {bs : List (Nat × Bx)} {r : Nat} {q : Path} {t : Ty} {K : Bx → List (den t) → Md → Option T} (h : rowAt bs r q t K = some r0) :
    ∃ b m, bget bs r = some b ∧ ∃ e : ctype b.t q = .slc t, mget b.m q = .own m ∧ K b (e ▸ cget b.t b.x q : den (.slc t)) m = some r0 := by
  unfold rowAt at h
  split at h
  · rename_i b hb
    split at h
    · rename_i e
      split at h
      · rename_i m hm
        exact ⟨b, m, hb, e, hm, h⟩
      · cases h
    · cases h
  · cases h
theorem mapAt_some {bs : List (Nat × Bx)} {r : Nat} {q : Path} {k v : Ty} {K : Bx → den (.mp k v) → Md → Option T} (h : mapAt bs r q k v K = some r0) :
    ∃ b m, bget bs r = some b ∧ ∃ e : ctype b.t q = .mp k v, mget b.m q = .own m ∧ K b (e ▸ cget b.t b.x q : den (.mp k v)) m = some r0 := by
  unfold mapAt at h
  split at h
  · rename_i b hb
    split at h
    · rename_i e
      split at h
      · rename_i m hm
        exact ⟨b, m, hb, e, hm, h⟩
      · cases h
    · cases h
  · cases h
theorem rz_some {t : Ty} {x : den t} {wm : Md} {K : Md → Option T} {cs : List Value} (hk : rzK t x wm K = some r0) (hr : Rep w Im t .ro x cs []) : ∃ m, K m = some r0 ∧ Rep w Im t m x cs [] := by
  unfold rzK at hk
  split at hk
  · split at hk
    · rename_i h0
      exact ⟨.rz, hk, hr, fun e => by rw [e] at h0; simp at h0⟩
    · cases hk
  · exact ⟨.ro, hk, hr⟩
theorem toC_some : ∀ {t : Ty} {s : SV} {st : St} {Im : Nat → Prop} {R : Real} {hand : Frag} {wm : Md} {K : den t → Md → St → Option T} {cs : List Value}, toC st s t wm K = some r0 → Inv G st vs w Im R hand → SVX w Im R s false cs →
    ∃ x m st' Im' R' h1, K x m st' = some r0 ∧ Inv G st' vs w Im' R' (hand ++ h1) ∧ Rep w Im' t m x cs h1 ∧ Grow w w Im Im' ∧ (∀ {s : SV} {c : List Value}, SVX w Im R s false c → SVX w Im' R' (shallow s) false c) ∧ (∀ j, j ∉ roots s → R' j = R j) := by
  intro t
  induction t with
  | pair a b iha ihb =>
    intro s st Im R hand wm K cs hk h hs
    cases s with
    | con t' x =>
      simp only [toC] at hk
      split at hk
      · rename_i e; subst e
        obtain ⟨m, hk, hs⟩ := rz_some hk hs
        exact ⟨x, m, st, Im, R, [], hk, by rw [List.append_nil]; exact h, hs, Grow.refl _ _, fun hx => hx.forget_more _, fun _ _ => rfl⟩
      · cases hk
    | raw v =>
      simp only [toC] at hk
      split at hk
      · rename_i x hp
        obtain ⟨c1, e, r, s1⟩ := parse_ok (w := w) (Im := Im) _ hp
        have hs : cs = v.cells.toList := hs
        exact ⟨x, _, st, Im, R, [], hk, by rw [List.append_nil]; exact h, by rw [hs, e]; simpa using s1 wm, Grow.refl _ _, fun hx => hx.forget_more _, fun _ _ => rfl⟩
      · cases hk
    | agg s1 s2 =>
      simp only [toC] at hk
      obtain ⟨c1, c2, e, x1, x2⟩ := hs
      obtain ⟨x, ma, st1, Im1, R1, h1, hk, hi1, r1, g1, v1, q1⟩ := iha hk h x1
      obtain ⟨y, mb, st2, Im2, R2, h2, hk, hi2, r2, g2, v2, q2⟩ := ihb hk hi1 (v1 x2)
      refine ⟨(x, y), _, st2, Im2, R2, h1 ++ h2, hk, by rw [← List.append_assoc]; exact hi2, ⟨c1, c2, h1, h2, e, rfl, ?_, ?_⟩, g1.trans g2, fun hx => ?_, fun j hj => ?_⟩
      · rw [Md.mk_fst]; exact r1.grow g2
      · rw [Md.mk_snd]; exact r2
      · have := v2 (v1 hx)
        rwa [shallow_shallow] at this
      · simp only [roots, List.mem_append, not_or] at hj
        rw [q2 j (fun hm => hj.2 (roots_forget _ _ j hm)), q1 j hj.1]
    | _ => simp [toC] at hk
  | slc t ih =>
    intro s st Im R hand wm K cs hk h hs
    cases s with
    | con t' x =>
      simp only [toC] at hk
      split at hk
      · rename_i e; subst e
        obtain ⟨m, hk, hs⟩ := rz_some hk hs
        exact ⟨x, m, st, Im, R, [], hk, by rw [List.append_nil]; exact h, hs, Grow.refl _ _, fun hx => hx.forget_more _, fun _ _ => rfl⟩
      · cases hk
    | raw v =>
      simp only [toC] at hk
      split at hk
      · rename_i x hp
        obtain ⟨c1, e, r, s1⟩ := parse_ok (w := w) (Im := Im) _ hp
        have hs : cs = v.cells.toList := hs
        exact ⟨x, _, st, Im, R, [], hk, by rw [List.append_nil]; exact h, by rw [hs, e]; simpa using s1 wm, Grow.refl _ _, fun hx => hx.forget_more _, fun _ _ => rfl⟩
      · cases hk
    | emp =>
      simp only [toC] at hk
      obtain ⟨A, e⟩ := hs
      subst e
      cases wm with
      | rz => cases hk
      | own m => exact ⟨_, _, st, Im, R, [], hk, by rw [List.append_nil]; exact h, .inl ⟨rfl, ⟨A, rfl⟩, rfl⟩, Grow.refl _ _, fun hx => hx.forget_more _, fun _ _ => rfl⟩
      | _ => exact ⟨_, _, st, Im, R, [], hk, by rw [List.append_nil]; exact h, ⟨rfl, A, 0, rfl, Nat.le_refl _, fun h => absurd rfl h⟩, Grow.refl _ _, fun hx => hx.forget_more _, fun _ _ => rfl⟩
    | ref r q =>
      simp only [toC] at hk
      split at hk
      · rename_i h0
        obtain ⟨b, m, hb, e, hm, hk⟩ := rowAt_some hk
        obtain ⟨v, e1, hr⟩ := hs
        subst e1
        obtain ⟨R', h1, hi, hrep, hsv, hq⟩ := h.take hb hr h0 (by rw [e]; rfl) hm
        have hrep := hrep.cast e
        rw [hm] at hrep
        split at hk
        · split at hk
          · rename_i hl
            obtain ⟨hi2, g⟩ := hi.freeze
            refine ⟨_, _, _, _, R', [], hk, by rw [List.append_nil]; exact hi2, ?_, g, fun hx => (hsv hx).grow g, fun j hj => hq j (by simpa [roots] using hj)⟩
            refine Rep.freeze (w' := w) (t := .slc t) (m := .own m) hl g.im g.heap (fun p hp => ⟨.inr (keys_mem.2 ⟨p, hp, rfl⟩), ?_⟩) hrep
            exact hi.sep.heap 0 p (List.mem_append_right _ hp)
          · cases hk
        · exact ⟨_, _, _, Im, R', h1, hk, hi, hrep, Grow.refl _ _, hsv, fun j hj => hq j (by simpa [roots] using hj)⟩
      · cases hk
    | sub r q lo n =>
      simp only [toC] at hk
      split at hk
      · rename_i h0
        obtain ⟨b, m, hb, e, hm, hk⟩ := rowAt_some hk
        obtain ⟨v, e1, u, hr, hsub⟩ := hs
        subst e1
        obtain ⟨rb, hrr⟩ := h.real hb
        obtain ⟨t2, A, len, cap, A', cap', f1, f2, f3, f4, f5, f6, f7⟩ := hsub b rb hrr
        rw [e] at f1; injection f1 with f1; subst f1
        obtain ⟨R', h1, hi, hrep, hsv, hq⟩ := h.take hb hr h0 (by rw [e]; rfl) hm
        have hrep := hrep.cast e
        rw [hm, f2] at hrep
        obtain ⟨A2, cap2, g1, g2⟩ := Rep.ownLen hrep
        injection g1 with g1 g3 g4
        split at hk
        · split at hk
          · rename_i hl
            obtain ⟨hi2, g⟩ := hi.freeze
            refine ⟨_, _, _, _, R', [], hk, by rw [List.append_nil]; exact hi2, ?_, g, fun hx => (hsv hx).grow g, fun j hj => hq j (by simpa [roots] using hj)⟩
            have hf := Rep.freeze (w' := w) (t := .slc t) (m := .own m) hl g.im g.heap (fun p hp => ⟨.inr (keys_mem.2 ⟨p, hp, rfl⟩), hi.sep.heap 0 p (List.mem_append_right _ hp)⟩) hrep
            rw [f3]
            exact Rep.part hf (by omega) f5 f7
          · cases hk
        · obtain ⟨h2, r2, s2⟩ := Rep.ownPart hrep f4 f5 f6 f7
          refine ⟨_, _, _, Im, R', h2, hk, hi.less s2, ?_, Grow.refl _ _, hsv, fun j hj => hq j (by simpa [roots] using hj)⟩
          rw [f3]; exact r2
      · cases hk
    | _ => simp [toC] at hk
  | mp k v ihk ihv =>
    intro s st Im R hand wm K cs hk h hs
    cases s with
    | con t' x =>
      simp only [toC] at hk
      split at hk
      · rename_i e; subst e
        obtain ⟨m, hk, hs⟩ := rz_some hk hs
        exact ⟨x, m, st, Im, R, [], hk, by rw [List.append_nil]; exact h, hs, Grow.refl _ _, fun hx => hx.forget_more _, fun _ _ => rfl⟩
      · cases hk
    | raw v =>
      simp only [toC] at hk
      split at hk
      · rename_i x hp
        obtain ⟨c1, e, r, s1⟩ := parse_ok (w := w) (Im := Im) _ hp
        have hs : cs = v.cells.toList := hs
        exact ⟨x, _, st, Im, R, [], hk, by rw [List.append_nil]; exact h, by rw [hs, e]; simpa using s1 wm, Grow.refl _ _, fun hx => hx.forget_more _, fun _ _ => rfl⟩
      · cases hk
    | ref r q =>
      simp only [toC] at hk
      split at hk
      · rename_i h0
        obtain ⟨b, m, hb, e, hm, hk⟩ := mapAt_some hk
        obtain ⟨v, e1, hr⟩ := hs
        subst e1
        obtain ⟨R', h1, hi, hrep, hsv, hq⟩ := h.take hb hr h0 (by rw [e]; rfl) hm
        have hrep := hrep.cast e
        rw [hm] at hrep
        cases wm with
        | own wm => exact ⟨_, _, _, Im, R', h1, hk, hi, hrep, Grow.refl _ _, hsv, fun j hj => hq j (by simpa [roots] using hj)⟩
        | _ =>
        obtain ⟨hi2, g⟩ := hi.freeze
        refine ⟨_, _, _, _, R', [], hk, by rw [List.append_nil]; exact hi2, ?_, g, fun hx => (hsv hx).grow g, fun j hj => hq j (by simpa [roots] using hj)⟩
        refine Rep.freeze (w' := w) (t := .mp k _) (m := .own m) rfl g.im g.heap (fun p hp => ⟨.inr (keys_mem.2 ⟨p, hp, rfl⟩), ?_⟩) hrep
        exact hi.sep.heap 0 p (List.mem_append_right _ hp)
      · cases hk
    | _ => simp [toC] at hk
  | _ =>
    intro s st Im R hand wm K cs hk h hs
    cases s with
    | con t' x =>
      simp only [toC] at hk
      split at hk
      · rename_i e; subst e
        obtain ⟨m, hk, hs⟩ := rz_some hk hs
        exact ⟨x, m, st, Im, R, [], hk, by rw [List.append_nil]; exact h, hs, Grow.refl _ _, fun hx => hx.forget_more _, fun _ _ => rfl⟩
      · cases hk
    | raw v =>
      simp only [toC] at hk
      split at hk
      · rename_i x hp
        obtain ⟨c1, e, r, s1⟩ := parse_ok (w := w) (Im := Im) _ hp
        have hs : cs = v.cells.toList := hs
        exact ⟨x, _, st, Im, R, [], hk, by rw [List.append_nil]; exact h, by rw [hs, e]; simpa using s1 wm, Grow.refl _ _, fun hx => hx.forget_more _, fun _ _ => rfl⟩
      · cases hk
    | _ => simp [toC] at hk
end
end Go.Proofs.YtgdaiifhedpffaaDoor.V
set_option linter.unusedVariables false
set_option linter.unusedSimpArgs false
namespace Go.Proofs.YtgdaiifhedpffaaDoor.V
open Go
theorem dflt_rep {w : World} {Im : Nat → Prop} : ∀ (t : Ty) (m : Md), Rep w Im t (fitM t m) (dflt t) (zcells t) []
  | .int k, m => by cases m <;> exact ⟨rfl, rfl⟩
  | .bool, m => by cases m <;> exact ⟨rfl, rfl⟩
  | .str, m => by cases m <;> exact ⟨rfl, rfl⟩
  | .raw, m => by cases m <;> exact ⟨rfl, rfl, rfl⟩
  | .unit, m => by cases m <;> exact ⟨rfl, rfl⟩
  | .pair a b, m => by
    cases m with
    | ro =>
      have h1 := dflt_rep (w := w) (Im := Im) a .ro
      have h2 := dflt_rep (w := w) (Im := Im) b .ro
      have e1 : fitM a .ro = .ro := by cases a <;> rfl
      have e2 : fitM b .ro = .ro := by cases b <;> rfl
      rw [e1] at h1; rw [e2] at h2
      exact ⟨_, _, [], [], rfl, rfl, h1, h2⟩
    | _ => exact ⟨_, _, [], [], rfl, rfl, dflt_rep a _, dflt_rep b _⟩
  | .slc t, m => by
    cases m with
    | own m => exact .inl ⟨rfl, ⟨none, rfl⟩, rfl⟩
    | rz => exact ⟨⟨rfl, none, 0, rfl, Nat.le_refl _, fun h => absurd rfl h⟩, fun _ => rfl⟩
    | _ => exact ⟨rfl, none, 0, rfl, Nat.le_refl _, fun h => absurd rfl h⟩
  | .mp k v, m => by
    cases m with
    | own m => exact .inl ⟨rfl, rfl, rfl, rfl⟩
    | _ => exact ⟨rfl, .inl ⟨rfl, rfl⟩⟩
theorem zcells_len : ∀ t : Ty, (zcells t).length = sz t
  | .int _ => rfl
  | .bool => rfl
  | .str => rfl
  | .raw => rfl
  | .unit => rfl
  | .pair a b => by simp [zcells, sz, zcells_len a, zcells_len b]
  | .slc _ => rfl
  | .mp _ _ => rfl
def zeros (t : Ty) : Nat → List Value
  | 0 => []
  | n + 1 => zcells t ++ zeros t n
theorem zeros_len (t : Ty) (n : Nat) : (zeros t n).length = n * sz t := by
  induction n with
  | zero => simp [zeros]
  | succ n ih => simp [zeros, ih, zcells_len, Nat.add_mul]; omega
theorem zeros_rep {w : World} {Im : Nat → Prop} (t : Ty) (m : Md) (n : Nat) (rest : List Value) : RepL (fun x cs h => Rep w Im t (fitM t m) x cs h) (List.replicate n (dflt t)) (zeros t n ++ rest) [] := by
  induction n with
  | zero => rfl
  | succ n ih => exact ⟨zcells t, zeros t n ++ rest, [], [], by simp [zeros], rfl, dflt_rep t m, ih⟩
theorem zeros_range {z : Array Value} {t : Ty} (hz : z.toList = zcells t) (hp : 0 < sz t) (n : Nat) : ((Array.range (n * sz t)).map (z[· % z.size]!)).toList = zeros t n := by
  have hsz : z.size = sz t := by rw [← zcells_len, ← hz]; simp
  apply List.ext_getElem?
  intro i
  by_cases hi : i < n * sz t
  · have h1 : (zeros t n)[i]? = (zcells t)[i % sz t]? := by
      clear hsz hz
      induction n generalizing i with
      | zero => simp at hi
      | succ n ih =>
        simp only [zeros]
        by_cases h : i < sz t
        · rw [List.getElem?_append_left (by rw [zcells_len]; exact h), Nat.mod_eq_of_lt h]
        · have h2 : sz t ≤ i := by omega
          rw [List.getElem?_append_right (by rw [zcells_len]; exact h2), zcells_len, ih (i - sz t) (by rw [Nat.add_mul] at hi; omega)]
          rw [Nat.mod_eq_sub_mod h2]
    rw [h1]
    have hm : i % sz t < sz t := Nat.mod_lt _ hp
    have : i < (List.range (n * sz t)).length := by simpa using hi
    simp [hi, hsz, ← hz]
    have hm2 : i % sz t < z.size := by rw [hsz]; exact hm
    rw [getElem!_pos z (i % sz t) hm2]
    simp [hm2]
  · have h1 : (zeros t n)[i]? = none := List.getElem?_eq_none (by rw [zeros_len]; omega)
    rw [h1]
    simp [hi]
section
variable {P : Program} {G : Gl} {I0 : Nat → Prop} {st st1 : St} {a : Act} {w w' : World} {Im : Nat → Prop} {R : Real} {hand hand' : Frag} {o : Oper} {T : Type} {K : St → Option T} {r : T} {Q : Exit → Act → World → Prop} {E : Env}
theorem wp_to {s : SV} {v : Value} (hrun : (execOp a.eval o).run P w = .ok (.value v) w') (hd : a.defers = []) (hI : ∀ b, I0 b → Im b) (h : Inv G st1 a.tmps w' Im R []) (hs : SVV w' Im R s v)
    (hK : K (st1.set o.dst s) = some r) : o.wp P a w (Post G I0 K r) Q := by
  unfold Oper.wp
  rw [hrun]
  exact ⟨_, hK, by rw [put_defers]; exact hd, Im, R, hI, h.put o.dst hs⟩
theorem wp_skip_to (hrun : (execOp a.eval o).run P w = .ok .skip w') (hd : a.defers = []) (hI : ∀ b, I0 b → Im b) (h : Inv G st1 a.tmps w' Im R [])
    (hK : K (st1.set o.dst .tnil) = some r) : o.wp P a w (Post G I0 K r) Q := by
  unfold Oper.wp
  rw [hrun]
  exact ⟨_, hK, by rw [put_defers]; exact hd, Im, R, hI, h.put o.dst .ofUndef⟩
theorem Inv.perm {vs : Array Value} (h : Inv G st vs w Im R hand) (hp : List.Perm hand hand') : Inv G st vs w Im R hand' := by
  have hk : List.Perm (keys hand) (keys hand') := hp.map _
  refine ⟨h.box, h.rep, h.sep.redis (fun i => ?_) (fun i j hij k h1 h2 => ?_) (fun i p hp' => ?_), h.slots, h.len, h.keep, h.row⟩
  · cases i with
    | zero => exact hk.nodup_iff.1 (h.sep.nod 0)
    | succ i => exact h.sep.nod (i + 1)
  · have m : ∀ i, k ∈ keys (own R hand' i) → k ∈ keys (own R hand i) := fun i hk' => by
      cases i with
      | zero => exact hk.mem_iff.2 hk'
      | succ i => exact hk'
    exact h.sep.sep i j hij k (m i h1) (m j h2)
  · cases i with
    | zero => exact ⟨0, hp.mem_iff.2 hp'⟩
    | succ i => exact ⟨i + 1, hp'⟩
theorem ptr_ok {i : Nat} {b : Bx} {rb : RB} (hm : b.mem.isSome = true) (R : Real) : SVV w Im (fun j => if j = i then some (b, rb) else R j) (.ptr i []) (.pointer (some ⟨(blkOf b rb), 0, none⟩)) :=
  .ofCell ⟨_, rfl, fun b2 rb2 hb2 => by
    simp only [if_true] at hb2; cases hb2
    obtain ⟨e, he⟩ := Option.isSome_iff_exists.1 hm
    exact ⟨trivial, rb.cs, (blkOf b rb), 0, by simp [nav, locOf, he], rfl⟩⟩ rfl
theorem ref_ok {i : Nat} {b : Bx} {rb : RB} {v : Value} (hcs : rb.cs = [v]) (ht : isHd b.t = true) (R : Real) : SVV w Im (fun j => if j = i then some (b, rb) else R j) (.ref i []) v :=
  .ofCell ⟨_, rfl, fun b2 rb2 hb2 => by
    simp only [if_true] at hb2; cases hb2
    exact ⟨trivial, ht, locOf b rb, by simp [nav, hcs]⟩⟩ rfl
theorem step_alloc (hE : EnvOk P E) (hd : a.defers = []) (hI : ∀ b, I0 b → Im b) (h : Inv G st a.tmps w Im R []) {e : TypeId} (ho : o.op = .alloc e) {te : TE} (ht : E.get e = some te) (hz : te.z = true) {d : Tmp} (hdst : o.dst = some d) {m : Md}
    (hk : K ((st.lay (d * 16) { mem := some e, t := te.ty, m := fitM te.ty m, x := dflt te.ty }).set (some d) (.ptr (d * 16) [])) = some r) : o.wp P a w (Post G I0 K r) Q := by
  obtain ⟨⟨i, hi⟩, _⟩ := hE e te ht
  obtain ⟨z, hz1, hz2⟩ := hi.zero hz
  have hrun : (execOp a.eval o).run P w = .ok (.value (.pointer (some ⟨w.heap.size, 0, none⟩))) (w.alloc (.cells z.cells e)) := by
    unfold execOp
    simp only [ho, Instr.alloc, zeroValue, typeInfo, newVar, newRow, Sem.run_bind]
    simp [hi.info, hz1]
  have h1 := (h.alloc z.cells e)
  have ez : z.cells = (zcells te.ty).toArray := by rw [← hz2]
  rw [ez] at h1
  have h2 := h1.lay (d * 16) (b := { mem := some e, t := te.ty, m := fitM te.ty m, x := dflt te.ty }) (rb := ⟨w.heap.size, zcells te.ty, []⟩) (dflt_rep te.ty m) rfl
  rw [ez] at hrun
  rw [← hdst] at hk
  exact wp_to hrun hd hI h2 (ptr_ok rfl R) hk
theorem step_make (hE : EnvOk P E) (hd : a.defers = []) (hI : ∀ b, I0 b → Im b) (h : Inv G st a.tmps w Im R []) {tid : TypeId} {l c : Operand} (ho : o.op = .makeSlice tid l c) {te ee : TE} (ht : E.get tid = some te) {e : TypeId} (hdd : te.d = .slc e)
    (hee : E.get e = some ee) (hz : ee.z = true) {d : Tmp} (hdst : o.dst = some d) {m : Md} {k1 k2 : IntKind} {n cp : Int} (hl : a.eval l = .int k1 n) (hc : a.eval c = .int k2 cp) (hb : 0 ≤ n ∧ n ≤ cp ∧ cp * ee.bytes ≤ (most : Int)) (hsz : 0 < sz ee.ty) (hby : 0 < ee.bytes)
    (hk : K ((st.lay (d * 16) { mem := none, t := .slc ee.ty, m := .own (fitM ee.ty m), x := List.replicate n.toNat (dflt ee.ty) }).set (some d) (.ref (d * 16) [])) = some r) : o.wp P a w (Post G I0 K r) Q := by
  have hu := (hE tid te ht).2.1
  unfold UndOk at hu; rw [hdd] at hu
  obtain ⟨hu, _⟩ := hu
  obtain ⟨⟨i, hi⟩, _⟩ := hE e ee hee
  obtain ⟨z, hz1, hz2⟩ := hi.zero hz
  have hcp : cp ≤ 9223372036854775807 := by
    have : cp * 1 ≤ cp * ee.bytes := Int.mul_le_mul_of_nonneg_left (by omega) (by omega)
    have e1 : (most : Int) = 140737488355328 := rfl
    omega
  have hr := run_make (P := P) w tid e i z hu hi.info hz1 k1 k2 n cp hb.1 hb.2.1 (by rw [hi.bytes, Int.mul_comm]; have e1 : (most : Int) = 140737488355328 := rfl; omega) hcp
  have hrun : (execOp a.eval o).run P w = .ok (.value (.slice (some ⟨w.heap.size, 0, none⟩) n.toNat cp.toNat)) (w.alloc (.cells (madeCells z.cells (cp.toNat * i.size)) e)) := by
    unfold execOp
    simp only [ho, hl, hc, Sem.run_bind, hr, Result.andThen_ok]; rfl
  have h1 := (h.alloc (madeCells z.cells (cp.toNat * i.size)) e)
  have hcells : (madeCells z.cells (cp.toNat * i.size)).toList = zeros ee.ty cp.toNat := by rw [hi.size]; exact zeros_range hz2 hsz cp.toNat
  have h2 := h1.lay (d * 16) (b := { mem := none, t := .slc ee.ty, m := .own (fitM ee.ty m), x := List.replicate n.toNat (dflt ee.ty) })
    (rb := ⟨0, [.slice (some ⟨w.heap.size, 0, none⟩) n.toNat cp.toNat], [(w.heap.size, .cells (madeCells z.cells (cp.toNat * i.size)) e)]⟩)
    (.inr ⟨w.heap.size, 0, _, e, cp.toNat, [], by simp, rfl, by simp; omega, by simp only [maxLen]; omega, by
      rw [size_madeCells, hi.size]; simp, by
      have : zeros ee.ty cp.toNat = zeros ee.ty n.toNat ++ (zeros ee.ty cp.toNat).drop (n.toNat * sz ee.ty) := by
        have hle : n.toNat ≤ cp.toNat := by omega
        obtain ⟨k, hk⟩ := Nat.le.dest hle
        rw [← hk]
        clear hk hle
        generalize n.toNat = nn
        induction nn with
        | zero => simp [zeros]
        | succ nn ih =>
          rw [show nn + 1 + k = (nn + k) + 1 by omega]
          simp only [zeros]
          rw [Nat.add_mul, Nat.one_mul, Nat.add_comm (nn * _), ← List.drop_drop]
          rw [show (zcells ee.ty ++ zeros ee.ty (nn + k)).drop (sz ee.ty) = zeros ee.ty (nn + k) by rw [← zcells_len]; simp]
          rw [List.append_assoc, ← ih]
      rw [hcells, List.drop_zero, this]
      exact zeros_rep ee.ty m n.toNat _⟩) rfl
  rw [← hdst] at hk
  exact wp_to hrun hd hI h2 (ref_ok rfl rfl R) hk
end
end Go.Proofs.YtgdaiifhedpffaaDoor.V
set_option linter.unusedVariables false
set_option linter.unusedSimpArgs false
namespace Go.Proofs.YtgdaiifhedpffaaDoor.V
open Go
theorem flat_any {w : World} {Im : Nat → Prop} : ∀ {t : Ty} {m : Md} {x : den t} {cs : List Value} {h : Frag}, flat t = true → Rep w Im t m x cs h → h = [] ∧ ∀ m', Rep w Im t m' x cs []
  | .int _, _, _, _, _, _, r => ⟨r.2, fun _ => ⟨r.1, rfl⟩⟩
  | .bool, _, _, _, _, _, r => ⟨r.2, fun _ => ⟨r.1, rfl⟩⟩
  | .str, _, _, _, _, _, r => ⟨r.2, fun _ => ⟨r.1, rfl⟩⟩
  | .raw, _, _, _, _, _, r => ⟨r.2.2, fun _ => ⟨r.1, r.2.1, rfl⟩⟩
  | .unit, _, _, _, _, _, r => ⟨r.2, fun _ => ⟨r.1, rfl⟩⟩
  | .pair a b, m, x, cs, h, hf, ⟨c1, c2, h1, h2, e1, e2, r1, r2⟩ => by
    simp only [flat, Bool.and_eq_true] at hf
    obtain ⟨f1, g1⟩ := flat_any hf.1 r1
    obtain ⟨f2, g2⟩ := flat_any hf.2 r2
    subst f1; subst f2
    exact ⟨e2, fun m' => ⟨c1, c2, [], [], e1, rfl, g1 _, g2 _⟩⟩
  | .slc t, _, _, _, _, hf, _ => by simp [flat] at hf
section
variable {P : Program} {G : Gl} {I0 : Nat → Prop} {st st1 : St} {a : Act} {vs : Array Value} {w w' : World} {Im : Nat → Prop} {R : Real} {hand hand' : Frag} {o : Oper} {T : Type} {K : St → Option T} {r0 : T} {Q : Exit → Act → World → Prop} {E : Env}
theorem Keep.setRow {k : Nat} {c : Array Value} (h : Keep G w) (hk : G.w0.heap.size ≤ k ∨ k ∈ G.ks) : Keep G (w.setRow k c) :=
  ⟨h.os, h.tape, h.output, by rw [setRow_size']; exact h.size, fun b hb hn => by
    rw [setRow_other w k b c (by rintro rfl; rcases hk with hk | hk; · omega
                                 · exact hn hk)]
    exact h.block b hb hn⟩
where
  setRow_size' {w : World} {k : Nat} {c : Array Value} : (w.setRow k c).heap.size = w.heap.size := by simp [World.setRow]
theorem Inv.changeO (h : Inv G st vs w Im R (hand ++ hand')) {r : Nat} {b bN : Bx} {rb rbN : RB} (hr : R r = some (b, rb)) {k0 : Nat} {o0 oN : Obj} (hk0 : (k0, o0) ∈ fragOf b rb)
    (other : ∀ k, k ≠ k0 → w'.heap[k]? = w.heap[k]?) (hN : w'.heap[k0]? = some oN) (hsz : w'.heap.size = w.heap.size) (hkp : (G.w0.heap.size ≤ k0 ∨ k0 ∈ G.ks) → Keep G w')
    (hfr : ∀ p ∈ fragOf bN rbN, (p ∈ fragOf b rb ∧ p.1 ≠ k0) ∨ p ∈ hand' ∨ p = (k0, oN)) (hnd : (keys (fragOf bN rbN)).Nodup) (hrep : Rep w' Im bN.t bN.m bN.x rbN.cs rbN.h)
    {st' : St} {p : Bool → Nat → Path → Bool} (hbox : ∀ j, bget st'.boxes j = if j = r then some bN else bget st.boxes j) (hsl : st'.slots = st.slots.map (forget p))
    (hs : (∀ q v, p false r q = false → RefOK w R r q v → RefOK w' (fun j => if j = r then some (bN, rbN) else R j) r q v) ∧
      (∀ q lo n v, p false r q = false → SubOK w R r q lo n v → SubOK w' (fun j => if j = r then some (bN, rbN) else R j) r q lo n v) ∧
      (∀ q v, p true r q = false → PtrOK w R r q v → PtrOK w' (fun j => if j = r then some (bN, rbN) else R j) r q v)) (hrw : RowOk G b rb → RowOk G bN rbN := by exact fun hw => hw.same rfl rfl rfl rfl) :
    Inv G st' vs w' Im (fun j => if j = r then some (bN, rbN) else R j) hand := by
  have kin : k0 ∈ keys (own R (hand ++ hand') (r + 1)) := by rw [own_at hr]; exact keys_mem.2 ⟨_, hk0, rfl⟩
  have nin : ∀ j, j ≠ r + 1 → k0 ∉ keys (own R (hand ++ hand') j) := fun j hj hk => h.sep.sep j (r + 1) hj k0 hk kin
  have g : Grow w w' Im Im := ⟨fun _ h => h, fun k hk => other k (fun e => h.sep.im _ _ kin (e ▸ hk))⟩
  have hsv := h.sv g (R' := fun j => if j = r then some (bN, rbN) else R j) (p := p) (fun j => by
    by_cases ej : j = r
    · subst ej; exact .inr hs
    · refine .inl ⟨by simp [ej], fun b2 rb2 hb2 k hk => other k (fun e => ?_)⟩
      subst e
      exact nin (j + 1) (by simpa using ej) (by rw [own_at hb2]; obtain ⟨p, hp, e⟩ := keys_mem.1 hk; exact keys_mem.2 ⟨p, fragOf_sub p hp, e⟩))
  have hhand : keys (own R (hand ++ hand') 0) = keys hand ++ keys hand' := by rw [own_zero, keys_append]
  have n0 := h.sep.nod 0
  rw [hhand] at n0
  have dj := (List.nodup_append.1 n0).2.2
  -- a key of the new box: an old one of it, or out of the hand
  have newk : ∀ k ∈ keys (fragOf bN rbN), k ∈ keys (own R (hand ++ hand') (r + 1)) ∨ k ∈ keys hand' := fun k hk => by
    obtain ⟨q, hq, e⟩ := keys_mem.1 hk
    rcases hfr q hq with h1 | h1 | h1
    · exact .inl (by rw [own_at hr]; exact keys_mem.2 ⟨q, h1.1, e⟩)
    · exact .inr (keys_mem.2 ⟨q, h1, e⟩)
    · subst h1; subst e; exact .inl kin
  refine ⟨fun j => ?_, fun j b2 r2 hb2 => ?_, ⟨fun j => ?_, fun j l hjl k k1 k2 => ?_, fun j q hq => ?_, fun j k hk => ?_, fun j k hk => ?_, fun k hk => ?_, h.sep.imok⟩, fun n => ?_, ?_, ?_, fun j b2 r2 hb2 => ?_⟩
  · rw [hbox]; split
    · simp
    · exact h.box j
  · have hb2 : (if j = r then some (bN, rbN) else R j) = some (b2, r2) := hb2
    split at hb2
    · cases hb2; exact hrep
    · exact (h.rep j b2 r2 hb2).grow g
  · cases j with
    | zero => exact (List.nodup_append.1 n0).1
    | succ j =>
      simp only [own]
      by_cases ej : j = r
      · rw [if_pos ej]; exact hnd
      · rw [if_neg ej]; exact h.sep.nod (j + 1)
  · have m : ∀ j, k ∈ keys (own (fun j => if j = r then some (bN, rbN) else R j) hand j) → ((j = 0 ∧ k ∈ keys hand) ∨ (j = r + 1 ∧ (k ∈ keys (own R (hand ++ hand') (r + 1)) ∨ k ∈ keys hand')) ∨ (j ≠ 0 ∧ j ≠ r + 1 ∧ k ∈ keys (own R (hand ++ hand') j))) := by
      intro j hk
      cases j with
      | zero => exact .inl ⟨rfl, hk⟩
      | succ j =>
        simp only [own] at hk
        by_cases ej : j = r
        · rw [if_pos ej] at hk; exact .inr (.inl ⟨by rw [ej], newk k hk⟩)
        · rw [if_neg ej] at hk; exact .inr (.inr ⟨by simp, by simpa using ej, hk⟩)
    have z : k ∈ keys hand → k ∈ keys (own R (hand ++ hand') 0) := fun hk => by rw [hhand]; exact List.mem_append_left _ hk
    have z' : k ∈ keys hand' → k ∈ keys (own R (hand ++ hand') 0) := fun hk => by rw [hhand]; exact List.mem_append_right _ hk
    rcases m j k1 with ⟨e1, a1⟩ | ⟨e1, a1⟩ | ⟨e1, e1', a1⟩ <;> rcases m l k2 with ⟨e2, a2⟩ | ⟨e2, a2⟩ | ⟨e2, e2', a2⟩
    · exact hjl (e1.trans e2.symm)
    · rcases a2 with a2 | a2
      · exact h.sep.sep 0 (r + 1) (by simp) k (z a1) a2
      · exact dj k a1 k a2 rfl
    · exact h.sep.sep 0 l (Ne.symm e2) k (z a1) a2
    · rcases a1 with a1 | a1
      · exact h.sep.sep 0 (r + 1) (by simp) k (z a2) a1
      · exact dj k a2 k a1 rfl
    · exact hjl (e1.trans e2.symm)
    · rcases a1 with a1 | a1
      · exact h.sep.sep (r + 1) l (Ne.symm e2') k a1 a2
      · exact h.sep.sep 0 l (Ne.symm e2) k (z' a1) a2
    · exact h.sep.sep 0 j (Ne.symm e1) k (z a2) a1
    · rcases a2 with a2 | a2
      · exact h.sep.sep (r + 1) j (Ne.symm e1') k a2 a1
      · exact h.sep.sep 0 j (Ne.symm e1) k (z' a2) a1
    · exact h.sep.sep j l hjl k a1 a2
  · have old : ∀ j, ∀ q ∈ own R (hand ++ hand') j, q.1 ≠ k0 → w'.heap[q.1]? = some q.2 := fun j q hq hne => by rw [other _ hne]; exact h.sep.heap j q hq
    cases j with
    | zero =>
      have : q ∈ own R (hand ++ hand') 0 := List.mem_append_left _ hq
      exact old 0 q this (fun e => nin 0 (by simp) (e ▸ keys_mem.2 ⟨q, this, rfl⟩))
    | succ j =>
      simp only [own] at hq
      by_cases ej : j = r
      · rw [if_pos ej] at hq
        rcases hfr q hq with h1 | h1 | h1
        · exact old (r + 1) q (by rw [own_at hr]; exact h1.1) h1.2
        · have : q ∈ own R (hand ++ hand') 0 := List.mem_append_right _ h1
          exact old 0 q this (fun e => nin 0 (by simp) (e ▸ keys_mem.2 ⟨q, this, rfl⟩))
        · subst h1; exact hN
      · rw [if_neg ej] at hq
        exact old (j + 1) q hq (fun e => nin (j + 1) (by simpa using ej) (e ▸ keys_mem.2 ⟨q, hq, rfl⟩))
  · cases j with
    | zero => exact h.sep.im 0 k (by rw [hhand]; exact List.mem_append_left _ hk)
    | succ j =>
      simp only [own] at hk
      by_cases ej : j = r
      · rw [if_pos ej] at hk
        rcases newk k hk with h1 | h1
        · exact h.sep.im _ k h1
        · exact h.sep.im 0 k (by rw [hhand]; exact List.mem_append_right _ h1)
      · rw [if_neg ej] at hk; exact h.sep.im (j + 1) k hk
  · cases j with
    | zero => exact h.sep.fresh 0 k (by rw [hhand]; exact List.mem_append_left _ hk)
    | succ j =>
      simp only [own] at hk
      by_cases ej : j = r
      · rw [if_pos ej] at hk
        rcases newk k hk with h1 | h1
        · exact h.sep.fresh _ k h1
        · exact h.sep.fresh 0 k (by rw [hhand]; exact List.mem_append_right _ h1)
      · rw [if_neg ej] at hk; exact h.sep.fresh (j + 1) k hk
  · rw [hsz]; exact h.sep.imlt k hk
  · rw [hsl, sget_map]; exact hsv.2 (h.slots n)
  · rw [hsl, List.length_map]; exact h.len
  · exact hkp (h.sep.fresh _ _ kin)
  · have hb2 : (if j = r then some (bN, rbN) else R j) = some (b2, r2) := hb2
    split at hb2
    · cases hb2; exact hrw (h.row r b rb hr)
    · exact h.row j b2 r2 hb2
theorem Inv.change (h : Inv G st vs w Im R (hand ++ hand')) {r : Nat} {b bN : Bx} {rb rbN : RB} (hr : R r = some (b, rb)) {k0 : Nat} {c0 cN : Array Value} {e0 : TypeId} (hk0 : (k0, .cells c0 e0) ∈ fragOf b rb)
    (hfr : ∀ p ∈ fragOf bN rbN, (p ∈ fragOf b rb ∧ p.1 ≠ k0) ∨ p ∈ hand' ∨ p = (k0, .cells cN e0)) (hnd : (keys (fragOf bN rbN)).Nodup) (hrep : Rep (w.setRow k0 cN) Im bN.t bN.m bN.x rbN.cs rbN.h)
    {st' : St} {p : Bool → Nat → Path → Bool} (hbox : ∀ j, bget st'.boxes j = if j = r then some bN else bget st.boxes j) (hsl : st'.slots = st.slots.map (forget p))
    (hs : (∀ q v, p false r q = false → RefOK w R r q v → RefOK (w.setRow k0 cN) (fun j => if j = r then some (bN, rbN) else R j) r q v) ∧
      (∀ q lo n v, p false r q = false → SubOK w R r q lo n v → SubOK (w.setRow k0 cN) (fun j => if j = r then some (bN, rbN) else R j) r q lo n v) ∧
      (∀ q v, p true r q = false → PtrOK w R r q v → PtrOK (w.setRow k0 cN) (fun j => if j = r then some (bN, rbN) else R j) r q v)) (hrw : RowOk G b rb → RowOk G bN rbN := by exact fun hw => hw.same rfl rfl rfl rfl) :
    Inv G st' vs (w.setRow k0 cN) Im (fun j => if j = r then some (bN, rbN) else R j) hand := by
  have hh0 : w.heap[k0]? = some (.cells c0 e0 (0, 0)) := h.heapOK hr _ hk0
  exact h.changeO hr hk0 (fun k hk => setRow_other w k0 k cN hk) (setRow_heap w k0 c0 cN e0 (0, 0) hh0) Keep.setRow.setRow_size' (fun hf => h.keep.setRow hf) hfr hnd hrep hbox hsl hs hrw
theorem fragOf_keys {b : Bx} {rb : RB} : keys (fragOf b rb) = (match b.mem with | some _ => [blkOf b rb] | none => []) ++ keys rb.h := by
  unfold fragOf; cases b.mem <;> simp [keys]
theorem Inv.place (h : Inv G st vs w Im R (hand ++ hand')) {r : Nat} {b : Bx} {rb : RB} (hr : R r = some (b, rb)) {q : Path} (hv : Valid b.t b.x b.m q) {cs : List Value} {b' off : Nat} (hn : nav w b.t rb.cs (locOf b rb) q = some (cs, some (b', off)))
    {m : Md} {y : den (ctype b.t q)} {c2 : List Value} (hrep : Rep w Im (ctype b.t q) m y c2 hand')
    {fl : Bool} (hfl : fl = flat (ctype b.t q)) (hm : fl = false → lev q ≠ 0 → m = mget b.m q) :
    ∃ cur e R', w.heap[b']? = some (.cells cur e (0, 0)) ∧ off + c2.length ≤ cur.size ∧
      ∀ st', (∀ j, bget st'.boxes j = if j = r then some { b with x := cput b.t b.x q y, m := if fl = false ∧ lev q = 0 then mput b.m q m else b.m, row := if lev q = 0 then none else b.row } else bget st.boxes j) →
        st'.slots = (if fl = true then st.slots else st.slots.map (kill r (lev q))) →
        Inv G st' vs (w.setRow b' (cur.toList.take off ++ c2 ++ cur.toList.drop (off + c2.length)).toArray) Im R' hand := by
  obtain ⟨cs', ad', A, h1, B, n1, n2, n3, n4, n5⟩ := focus q (ad := locOf b rb) hv (h.rep r b rb hr) (fun p hp => h.heapOK hr p (fragOf_sub p hp)) (h.nodup' hr)
  rw [hn] at n1
  simp only [Option.some.injEq, Prod.mk.injEq] at n1
  obtain ⟨rfl, rfl⟩ := n1
  have hl2 : c2.length = cs.length := by rw [hrep.len, n3.len]
  have hl3 : c2.length = sz (ctype b.t q) := hrep.len
  have hnf := h.nodup hr
  have dj : ∀ k ∈ keys hand', k ∉ keys (fragOf b rb) := fun k hk hk2 => h.sep.sep 0 (r + 1) (by simp) k (by rw [own_zero, keys_append]; exact List.mem_append_right _ hk) (by rw [own_at hr]; exact hk2)
  have ndh : (keys hand').Nodup := by have := h.sep.nod 0; rw [own_zero, keys_append] at this; exact (List.nodup_append.1 this).2.1
  have hslots : ∀ (P : Bool → Nat → Path → Bool), (fl = true → P = fun _ _ _ => false) → (fl = false → P = fun isPtr s q' => decide (s = r) && cond isPtr (decide (lev q < lev q')) (decide (lev q ≤ lev q'))) →
      (if fl = true then st.slots else st.slots.map (kill r (lev q))) = st.slots.map (forget P) := by
    intro P h1 h2
    cases fl with
    | true => rw [if_pos rfl, h1 rfl]; have : (V.forget fun _ _ _ => false) = id := funext forget_none; rw [this]; simp
    | false => rw [if_neg (by simp), h2 rfl]; rfl
  -- what leads to the box
  have special : ∀ (bN : Bx) (rbN : RB) (w' : World), bN.t = b.t → locOf bN rbN = locOf b rb → bN.mem = b.mem →
      (∀ q2, Valid b.t b.x b.m q2 → (fl = true ∨ lev q2 ≤ lev q) → (ht : bN.t = b.t) → Valid bN.t bN.x bN.m q2) →
      (∀ q2, Valid b.t b.x b.m q2 → (fl = true ∨ lev q2 ≤ lev q) → Stays (fl = true) b.t q2 (lev q2 < lev q) (nav w b.t rb.cs (locOf b rb) q2) (nav w' b.t rbN.cs (locOf b rb) q2)) →
      ∀ (P : Bool → Nat → Path → Bool), (fl = true → P = fun _ _ _ => false) → (fl = false → P = fun isPtr s q' => decide (s = r) && cond isPtr (decide (lev q < lev q')) (decide (lev q ≤ lev q'))) →
      (∀ q v, P false r q = false → RefOK w R r q v → RefOK w' (fun j => if j = r then some (bN, rbN) else R j) r q v) ∧
      (∀ q lo n v, P false r q = false → SubOK w R r q lo n v → SubOK w' (fun j => if j = r then some (bN, rbN) else R j) r q lo n v) ∧
      (∀ q v, P true r q = false → PtrOK w R r q v → PtrOK w' (fun j => if j = r then some (bN, rbN) else R j) r q v) := by
    intro bN rbN w' ht hloc hmem hval hstay Pp hp1 hp2
    have refs : ∀ q2 v, Pp false r q2 = false → RefOK w R r q2 v → RefOK w' (fun j => if j = r then some (bN, rbN) else R j) r q2 v := by
      intro q2 v hp hh b2 rb2 hb2
      simp only [if_true] at hb2; cases hb2
      obtain ⟨hv2, ht2, ad2, hn2⟩ := hh b rb hr
      have hc : fl = true ∨ lev q2 < lev q := by
        cases fl with
        | true => exact .inl rfl
        | false => rw [hp2 rfl] at hp; simp at hp; exact .inr hp
      obtain ⟨c', k1, k2⟩ := hstay q2 hv2 (hc.imp id Nat.le_of_lt) _ _ hn2
      have := k2 ht2 hc
      subst this
      exact ⟨hval q2 hv2 (hc.imp id Nat.le_of_lt) ht, by rw [ht]; exact ht2, ad2, by rw [ht, hloc]; exact k1⟩
    refine ⟨refs, fun q2 lo n v hp ⟨u, hu, hsub⟩ => ⟨u, refs q2 u hp hu, fun b2 rb2 hb2 => ?_⟩, fun q2 v hp hh b2 rb2 hb2 => ?_⟩
    · simp only [if_true] at hb2; cases hb2
      rw [ht]; exact hsub b rb hr
    · simp only [if_true] at hb2; cases hb2
      obtain ⟨hv2, cs2, b3, o2, hn2, e2⟩ := hh b rb hr
      have hc : fl = true ∨ lev q2 ≤ lev q := by
        cases fl with
        | true => exact .inl rfl
        | false => rw [hp2 rfl] at hp; simp at hp; exact .inr hp
      obtain ⟨c', k1, _⟩ := hstay q2 hv2 hc _ _ hn2
      exact ⟨hval q2 hv2 hc ht, c', b3, o2, by rw [ht, hloc]; exact k1, e2⟩
  by_cases h0 : lev q = 0
  · obtain ⟨pre, post, p1, p2, p3, p4, p5⟩ := n4 h0
    unfold locOf at p2
    obtain ⟨ty, hmm⟩ : ∃ ty, b.mem = some ty := by
      cases hmm : b.mem with
      | none => rw [hmm] at p2; simp at p2
      | some ty => exact ⟨ty, rfl⟩
    rw [hmm] at p2
    simp at p2
    obtain ⟨rfl, rfl⟩ := p2
    have hfr : fragOf b rb = ((blkOf b rb), .cells rb.cs.toArray ty) :: rb.h := by unfold fragOf; rw [hmm]
    have hh0 : w.heap[blkOf b rb]? = some (.cells rb.cs.toArray ty (0, 0)) := h.heapOK hr _ (by rw [hfr]; exact List.mem_cons_self ..)
    have hnb : (blkOf b rb) ∉ keys rb.h := by rw [hfr, keys_cons] at hnf; exact (List.nodup_cons.1 hnf).1
    refine ⟨rb.cs.toArray, ty, (fun j => if j = r then some ({ b with x := cput b.t b.x q y, m := if fl = false ∧ lev q = 0 then mput b.m q m else b.m, row := if lev q = 0 then none else b.row }, { rb with cs := pre ++ c2 ++ post, h := A ++ hand' ++ B }) else R j), hh0, by rw [p1]; simp; omega, fun st' hbox hsl => ?_⟩
    have ecs : (rb.cs.toArray.toList.take pre.length ++ c2 ++ rb.cs.toArray.toList.drop (pre.length + c2.length)) = pre ++ c2 ++ post := by
      rw [hl2, p1]; simp
    rw [ecs]
    let Pp : Bool → Nat → Path → Bool := if fl = true then fun _ _ _ => false else fun isPtr s q' => decide (s = r) && cond isPtr (decide (lev q < lev q')) (decide (lev q ≤ lev q'))
    have hw' : ∀ k ∈ keys rb.h, (w.setRow (blkOf b rb) (pre ++ c2 ++ post).toArray).heap[k]? = w.heap[k]? := fun k hk => setRow_other _ _ _ _ (by rintro rfl; exact hnb hk)
    have gr : Grow w (w.setRow (blkOf b rb) (pre ++ c2 ++ post).toArray) Im Im := ⟨fun _ h => h, fun k hk => setRow_other _ _ _ _ (by
      rintro rfl; exact h.sep.im (r + 1) _ (by rw [own_at hr, hfr]; simp [keys]) hk)⟩
    refine h.change (bN := { b with x := cput b.t b.x q y, m := if fl = false ∧ lev q = 0 then mput b.m q m else b.m, row := if lev q = 0 then none else b.row }) (rbN := { rb with cs := pre ++ c2 ++ post, h := A ++ hand' ++ B }) (p := Pp) hr (k0 := (blkOf b rb)) (c0 := rb.cs.toArray) (e0 := ty)
      (by rw [hfr]; exact List.mem_cons_self ..) ?_ ?_ ?_ hbox (by rw [hsl]; exact hslots Pp (fun h => by simp only [Pp]; rw [if_pos h]) (fun h => by simp only [Pp]; rw [if_neg (by simp [h])])) ?_ (fun _ => .no (by show (if lev q = 0 then none else b.row) = none; rw [if_pos h0]))
    · intro p hp
      have : p ∈ ((blkOf b rb), .cells (pre ++ c2 ++ post).toArray ty) :: (A ++ hand' ++ B) := by unfold fragOf at hp; simp only [hmm] at hp; exact hp
      rcases List.mem_cons.1 this with e | hp
      · exact .inr (.inr e)
      · have key : ∀ p ∈ A ++ B, (p ∈ fragOf b rb ∧ p.1 ≠ (blkOf b rb)) := fun p hp => by
          have : p ∈ rb.h := by rw [n2]; simp at hp ⊢; rcases hp with h | h <;> simp [h]
          exact ⟨fragOf_sub p this, fun e => hnb (e ▸ keys_mem.2 ⟨p, this, rfl⟩)⟩
        simp only [List.mem_append] at hp
        rcases hp with (hp | hp) | hp
        · exact .inl (key p (by simp [hp]))
        · exact .inr (.inl hp)
        · exact .inl (key p (by simp [hp]))
    · rw [fragOf_keys]
      simp only [hmm]
      rw [hfr, keys_cons, n2] at hnf
      obtain ⟨hb1, hb2⟩ := List.nodup_cons.1 hnf
      simp only [keys_append] at hb1 hb2 ⊢
      have djA : ∀ k ∈ keys hand', k ≠ (blkOf b rb) ∧ k ∉ keys A ∧ k ∉ keys B := fun k hk => by
        have := dj k hk
        rw [hfr, keys_cons, n2, keys_append, keys_append] at this
        simp at this
        exact ⟨this.1, this.2.1, this.2.2.2⟩
      simp only [List.singleton_append, List.nodup_cons, List.nodup_append, List.mem_append, not_or] at hb1 hb2 ⊢
      refine ⟨⟨⟨hb1.1.1, fun hk => (djA _ hk).1 rfl⟩, hb1.2⟩, ⟨⟨hb2.1.1, ndh, fun x hx z hz e => (djA z hz).2.1 (e ▸ hx)⟩, hb2.2.1, fun x hx z hz e => ?_⟩⟩
      rcases hx with hx | hx
      · exact hb2.2.2 x (.inl hx) z hz e
      · exact (djA x hx).2.2 (e ▸ hz)
    · show Rep _ Im b.t (if fl = false ∧ lev q = 0 then mput b.m q m else b.m) (cput b.t b.x q y) (pre ++ c2 ++ post) (A ++ hand' ++ B)
      by_cases hf : fl = false
      · rw [if_pos ⟨hf, h0⟩]; exact p3 _ Im gr m y c2 hand' (hrep.grow gr)
      · rw [if_neg (by simp [hf])]
        have hf' : fl = true := by simpa using hf
        obtain ⟨f1, f2⟩ := flat_any (by rw [← hfl]; exact hf') hrep
        rw [f1]; exact p4 _ Im gr y c2 [] ((f2 _).grow gr)
    · refine special { b with x := cput b.t b.x q y, m := if fl = false ∧ lev q = 0 then mput b.m q m else b.m, row := if lev q = 0 then none else b.row } { rb with cs := pre ++ c2 ++ post, h := A ++ hand' ++ B } _ rfl rfl rfl ?_ ?_ Pp (fun h => by simp only [Pp]; rw [if_pos h]) (fun h => by simp only [Pp]; rw [if_neg (by simp [h])])
      · intro q2 hv2 hc ht
        show Valid b.t (cput b.t b.x q y) (if fl = false ∧ lev q = 0 then mput b.m q m else b.m) q2
        by_cases hf : fl = false
        · rw [if_pos ⟨hf, h0⟩]
          refine valid0 q2 ?_ hv2
          rcases hc with hc | hc
          · rw [hf] at hc; cases hc
          · omega
        · rw [if_neg (by simp [hf])]
          have hf' : fl = true := by simpa using hf
          exact (p5 _ c2 hl3 hw' y q2 hv2 (.inl (by rw [← hfl]; exact hf'))).1 (by rw [← hfl]; exact hf')
      · intro q2 hv2 hc
        have := (p5 _ c2 hl3 hw' y q2 hv2 (hc.imp (fun h => by rw [← hfl]; exact h) (fun h => by omega))).2
        intro c ad2 hn2
        obtain ⟨c', k1, k2⟩ := this c ad2 hn2
        refine ⟨c', k1, fun ht hs => k2 ht ?_⟩
        rcases hs with hs | hs
        · exact .inl (by rw [← hfl]; exact hs)
        · omega
  · obtain ⟨A1, A2, b2, cc, e, pre, post, p0, p1, p2, p3, p4⟩ := n5 h0
    simp only [Option.some.injEq, Prod.mk.injEq] at p2
    obtain ⟨rfl, rfl⟩ := p2
    have hin : (b', .cells cc e) ∈ rb.h := by rw [n2, p0]; simp
    have hh0 : w.heap[b']? = some (.cells cc e (0, 0)) := h.heapOK hr _ (fragOf_sub _ hin)
    refine ⟨cc, e, (fun j => if j = r then some ({ b with x := cput b.t b.x q y }, { rb with h := A1 ++ (b', .cells (pre ++ c2 ++ post).toArray e) :: A2 ++ hand' ++ B }) else R j), hh0, by have := congrArg List.length p1; simp at this; omega, fun st' hbox hsl => ?_⟩
    have ecs : (cc.toList.take pre.length ++ c2 ++ cc.toList.drop (pre.length + c2.length)) = pre ++ c2 ++ post := by
      rw [hl2, p1]; simp
    rw [ecs]
    let Pp : Bool → Nat → Path → Bool := if fl = true then fun _ _ _ => false else fun isPtr s q' => decide (s = r) && cond isPtr (decide (lev q < lev q')) (decide (lev q ≤ lev q'))
    have hw' : ∀ k ∈ keys rb.h, k ≠ b' → (w.setRow b' (pre ++ c2 ++ post).toArray).heap[k]? = w.heap[k]? := fun k _ hne => setRow_other _ _ _ _ hne
    have hb' : (w.setRow b' (pre ++ c2 ++ post).toArray).heap[b']? = some (.cells (pre ++ c2 ++ post).toArray e (0, 0)) := setRow_heap w b' cc _ e (0, 0) hh0
    have gr : Grow w (w.setRow b' (pre ++ c2 ++ post).toArray) Im Im := ⟨fun _ h => h, fun k hk => setRow_other _ _ _ _ (by
      rintro rfl; exact h.sep.im (r + 1) _ (by rw [own_at hr]; exact keys_mem.2 ⟨_, fragOf_sub _ hin, rfl⟩) hk)⟩
    have em : (if fl = false ∧ lev q = 0 then mput b.m q m else b.m) = b.m := by rw [if_neg (by simp [h0])]
    have er : (if lev q = 0 then none else b.row) = b.row := by rw [if_neg h0]
    rw [em, er] at hbox
    have hnh := h.nodup' hr
    rw [n2, p0] at hnh
    refine h.change (bN := { b with x := cput b.t b.x q y }) (rbN := { rb with h := A1 ++ (b', .cells (pre ++ c2 ++ post).toArray e) :: A2 ++ hand' ++ B }) (p := Pp) hr (k0 := b') (c0 := cc) (e0 := e)
      (fragOf_sub _ hin) ?_ ?_ ?_ hbox (by rw [hsl]; exact hslots Pp (fun h => by simp only [Pp]; rw [if_pos h]) (fun h => by simp only [Pp]; rw [if_neg (by simp [h])])) ?_
    · intro p hp
      have key : ∀ p ∈ A1 ++ A2 ++ B, p ∈ fragOf b rb ∧ p.1 ≠ b' := fun p hp => by
        have hp2 : p ∈ rb.h := by rw [n2, p0]; simp at hp ⊢; rcases hp with h | h | h <;> simp [h]
        refine ⟨fragOf_sub p hp2, fun ek => ?_⟩
        simp only [keys_append, keys_cons] at hnh
        have hk : p.1 ∈ keys A1 ++ keys A2 ++ keys B := by
          simp only [List.mem_append] at hp ⊢
          rcases hp with (h | h) | h
          · exact .inl (.inl (keys_mem.2 ⟨p, h, rfl⟩))
          · exact .inl (.inr (keys_mem.2 ⟨p, h, rfl⟩))
          · exact .inr (keys_mem.2 ⟨p, h, rfl⟩)
        rw [ek] at hk
        simp only [List.nodup_append, List.nodup_cons, List.mem_append, List.mem_cons] at hnh hk
        rcases hk with (h | h) | h
        · exact hnh.1.1.2.2 b' h b' (.inl rfl) rfl
        · exact hnh.1.1.2.1.1 h
        · exact hnh.2.2 b' (.inl (.inr (.inl rfl))) b' h rfl
      have hp' : p ∈ (match b.mem with | some ty => [((blkOf b rb), .cells rb.cs.toArray ty)] | none => []) ++ (A1 ++ (b', .cells (pre ++ c2 ++ post).toArray e) :: A2 ++ hand' ++ B) := by
        unfold fragOf at hp; cases hmm : b.mem <;> simp only [hmm] at hp ⊢ <;> simpa [blkOf] using hp
      rcases List.mem_append.1 hp' with hp | hp
      · have hf : p ∈ fragOf b rb := by unfold fragOf; cases hmm : b.mem <;> simp only [hmm] at hp ⊢ <;> simp at hp; rw [hp]; exact List.mem_cons_self ..
        refine .inl ⟨hf, fun ek => ?_⟩
        rw [fragOf_keys] at hnf
        cases hmm : b.mem with
        | none => rw [hmm] at hp; simp at hp
        | some ty =>
          rw [hmm] at hp hnf; simp at hp hnf
          rw [hp] at ek
          exact hnf.1 (by have ek : (blkOf b rb) = b' := ek; rw [ek]; exact keys_mem.2 ⟨_, hin, rfl⟩)
      · simp only [List.mem_append, List.mem_cons] at hp
        rcases hp with ((hp | hp | hp) | hp) | hp
        · exact .inl (key p (by simp [hp]))
        · exact .inr (.inr hp)
        · exact .inl (key p (by simp [hp]))
        · exact .inr (.inl hp)
        · exact .inl (key p (by simp [hp]))
    · rw [fragOf_keys] at hnf ⊢
      have hnf' := hnf
      rw [n2, p0] at hnf'
      have djA : ∀ k ∈ keys hand', k ∉ (match b.mem with | some _ => [blkOf b rb] | none => []) ∧ k ∉ keys rb.h := fun k hk => by
        have := dj k hk
        rw [fragOf_keys] at this
        exact ⟨fun h => this (List.mem_append_left _ h), fun h => this (List.mem_append_right _ h)⟩
      show ((match b.mem with | some _ => [blkOf b rb] | none => []) ++ keys (A1 ++ (b', .cells (pre ++ c2 ++ post).toArray e) :: A2 ++ hand' ++ B)).Nodup
      generalize (match b.mem with | some _ => [blkOf b rb] | none => []) = M at hnf' djA ⊢
      have djB : ∀ k ∈ keys hand', k ∉ M ∧ k ∉ keys A1 ∧ k ≠ b' ∧ k ∉ keys A2 ∧ k ∉ keys B := fun k hk => by
        obtain ⟨d1, d2⟩ := djA k hk
        rw [n2, p0] at d2
        simp only [keys_append, keys_cons, List.mem_append, List.mem_cons, not_or] at d2
        exact ⟨d1, d2.1.1.1, d2.1.1.2.1, d2.1.1.2.2, d2.2⟩
      have e1 : keys (A1 ++ (b', .cells (pre ++ c2 ++ post).toArray e) :: A2 ++ hand' ++ B) = (keys A1 ++ b' :: keys A2) ++ keys hand' ++ keys B := by simp [keys]
      have e2 : keys (A1 ++ (b', .cells cc e) :: A2 ++ h1 ++ B) = (keys A1 ++ b' :: keys A2) ++ keys h1 ++ keys B := by simp [keys]
      rw [e1]; rw [e2] at hnf'
      have djC : ∀ k ∈ keys hand', k ∉ M ∧ k ∉ (keys A1 ++ b' :: keys A2) ∧ k ∉ keys B := fun k hk => by
        obtain ⟨d1, d2, d3, d4, d5⟩ := djB k hk
        exact ⟨d1, by simp only [List.mem_append, List.mem_cons, not_or]; exact ⟨d2, d3, d4⟩, d5⟩
      generalize (keys A1 ++ b' :: keys A2) = L at hnf' djC ⊢
      simp only [List.nodup_append, List.mem_append] at hnf' ⊢
      refine ⟨hnf'.1, ⟨⟨hnf'.2.1.1.1, ndh, fun x hx z hz ek => (djC z hz).2.1 (ek ▸ hx)⟩, hnf'.2.1.2.1, fun x hx z hz ek => ?_⟩, fun x hx z hz ek => ?_⟩
      · rcases hx with hx | hx
        · exact hnf'.2.1.2.2 x (.inl hx) z hz ek
        · exact (djC x hx).2.2 (ek ▸ hz)
      · rcases hz with (hz | hz) | hz
        · exact hnf'.2.2 x hx z (.inl (.inl hz)) ek
        · exact (djC z hz).1 (ek ▸ hx)
        · exact hnf'.2.2 x hx z (.inr hz) ek
    · show Rep _ Im b.t b.m (cput b.t b.x q y) rb.cs _
      cases hf : fl with
      | false =>
        have := hm hf h0
        subst this
        exact p3 _ Im gr y c2 hand' (hrep.grow gr)
      | true =>
        obtain ⟨f1, f2⟩ := flat_any (by rw [← hfl]; exact hf) hrep
        rw [f1]; exact p3 _ Im gr y c2 [] ((f2 _).grow gr)
    · refine special { b with x := cput b.t b.x q y } { rb with h := A1 ++ (b', .cells (pre ++ c2 ++ post).toArray e) :: A2 ++ hand' ++ B } _ rfl rfl rfl ?_ ?_ Pp (fun h => by simp only [Pp]; rw [if_pos h]) (fun h => by simp only [Pp]; rw [if_neg (by simp [h])])
      · intro q2 hv2 hc ht
        exact (p4 _ c2 hl3 hb' hw' y q2 hv2 (hc.imp (fun h => by rw [← hfl]; exact h) id)).1
      · intro q2 hv2 hc
        have := (p4 _ c2 hl3 hb' hw' y q2 hv2 (hc.imp (fun h => by rw [← hfl]; exact h) id)).2
        intro c ad2 hn2
        obtain ⟨c', k1, k2⟩ := this c ad2 hn2
        exact ⟨c', k1, fun ht hs => k2 ht (hs.imp (fun h => by rw [← hfl]; exact h) id)⟩
end
end Go.Proofs.YtgdaiifhedpffaaDoor.V
set_option linter.unusedVariables false
set_option linter.unusedSimpArgs false
namespace Go.Proofs.YtgdaiifhedpffaaDoor.V
open Go
theorem cells_of {s : SV} {v : Value} {cs : List Value} (h : if isAgg s = true then v = .agg cs.toArray else cs = [v]) (h1 : ∀ u ∈ cs, u.oneCell' = true) : v.cells.toList = cs := by
  split at h
  · subst h; simp [Value.cells]
  · subst h
    have := h1 v (List.mem_cons_self ..)
    cases v <;> simp_all [Value.cells, Value.oneCell']
section
variable {P : Program} {G : Gl} {I0 : Nat → Prop} {st st1 : St} {a : Act} {vs : Array Value} {w w' : World} {Im : Nat → Prop} {R : Real} {hand hand' : Frag} {o : Oper} {T : Type} {K : St → Option T} {r0 : T} {Q : Exit → Act → World → Prop} {E : Env}
theorem toC_ne {st : St} {s : SV} {t : Ty} {m : Md} {K : den t → Md → St → Option T} (h : toC st s t m K = some r0) : s ≠ .undef ∧ s ≠ .tnil ∧ ∀ a b, s ≠ .tcons a b := by
  refine ⟨?_, ?_, ?_⟩
  · rintro rfl; cases t <;> simp [toC] at h
  · rintro rfl; cases t <;> simp [toC] at h
  · rintro a b rfl; cases t <;> simp [toC] at h
theorem toC_val {s : SV} {v : Value} {t : Ty} {wm : Md} {K : den t → Md → St → Option T} (hk : toC st s t wm K = some r0) (h : Inv G st vs w Im R hand) (hs : SVV w Im R s v) :
    ∃ cs x m st' Im' R' h1, (if isAgg s = true then v = .agg cs.toArray else cs = [v]) ∧ v.cells.toList = cs ∧ K x m st' = some r0 ∧ Inv G st' vs w Im' R' (hand ++ h1) ∧ Rep w Im' t m x cs h1 ∧ Grow w w Im Im' ∧
      (∀ {s : SV} {c : List Value}, SVX w Im R s false c → SVX w Im' R' (shallow s) false c) ∧ (∀ j, j ∉ roots s → R' j = R j) := by
  obtain ⟨n1, n2, n3⟩ := toC_ne hk
  obtain ⟨cs, e, hx⟩ := hs.cells n1 n2 n3
  obtain ⟨x, m, st', Im', R', h1, k1, k2, k3, k4, k5, k6⟩ := toC_some hk h hx
  exact ⟨cs, x, m, st', Im', R', h1, e, cells_of e k3.one, k1, k2, k3, k4, k5, k6⟩
theorem run_storeAt (hE : EnvOk P E) {tid : TypeId} {te : TE} (ht : E.get tid = some te) {b o : Nat} {cur : Array Value} {e : TypeId} (hh : w.heap[b]? = some (.cells cur e (0, 0))) {v : Value} {cs : List Value} (hv : v.cells.toList = cs) (hl : cs.length = sz te.ty)
    (h1 : ∀ u ∈ cs, u.oneCell' = true) (hb : o + cs.length ≤ cur.size) :
    (Instr.storeAt tid (.pointer (some ⟨b, o, none⟩)) v).run P w = .ok () (w.setRow b (cur.toList.take o ++ cs ++ cur.toList.drop (o + cs.length)).toArray) := by
  obtain ⟨⟨i, hi⟩, _⟩ := hE tid te ht
  have hs := run_storeCells_at P b o e cs 0 cur w hh (by simpa using hb) h1
  simp only [Nat.add_zero] at hs
  have hsz : v.cells.size = i.size := by rw [hi.size, ← hl, ← hv]; simp
  simp only [Instr.storeAt, Instr.sureAddr, Sem.run_bind, Sem.run_pure, Result.andThen_ok, storeVar, run_sizeOf_ok hi]
  rw [if_neg (by rw [hsz, hi.size]; simp), hv]
  exact hs
theorem step_store (hE : EnvOk P E) (hd : a.defers = []) (hI : ∀ b, I0 b → Im b) (h : Inv G st a.tmps w Im R []) {tid : TypeId} {x y : Operand} (ho : o.op = .store tid x y) {te : TE} (ht : E.get tid = some te)
    {c : Cx} (hk : storeS c st te.ty (st.ev x) (st.ev y) (fun st => K (st.set o.dst .tnil)) = some r0) : o.wp P a w (Post G I0 K r0) Q := by
  have hx := h.ev x
  have hy := h.ev y
  unfold storeS at hk
  split at hk
  · rename_i r q hxe
    rw [hxe] at hx
    obtain ⟨u, e1, hp⟩ := hx.cell (by simp) (by simp) (by simp) rfl
    simp at e1
    split at hk
    · rename_i b0 hb0
      split at hk
      · rename_i hroot
        obtain ⟨cs, y', m, st', Im', R', h1, c1, c2, hk, hi, hrep, g, hsv, hq⟩ := toC_val (r0 := r0) hk h hy
        split at hk
        · rename_i b hb
          -- the pointer still leads there
          have hp' : PtrOK w R' r q u := by
            by_cases hr : r ∈ roots (st.ev y)
            · rcases hroot with h0 | h0
              · obtain ⟨v2, e2, hp2⟩ := hsv (s := .ptr r q) ⟨u, rfl, hp⟩ |> fun hh => by
                  have : shallow (.ptr r q) = .ptr r q := by simp [shallow, V.forget, h0]
                  rw [this] at hh; exact hh
                simp at e2; subst e2; exact hp2
              · exact absurd (List.contains_iff_mem.2 hr) (by rw [h0]; simp)
            · exact hp.same (hq r hr) (fun b rb hb => h.rep r b rb hb) (fun b rb hb p hp => h.heapOK hb p (fragOf_sub p hp)) (fun _ _ _ _ _ => rfl)
          obtain ⟨rb, hrr⟩ := hi.real hb
          obtain ⟨hv, cs0, b', off, hn, hu⟩ := hp' b rb hrr
          split at hk
          · rename_i hty
            have hrep' := hrep.cast hty.symm
            have hrun : ∀ cur e, w.heap[b']? = some (.cells cur e (0, 0)) → off + cs.length ≤ cur.size → (execOp a.eval o).run P w = .ok .skip (w.setRow b' (cur.toList.take off ++ cs ++ cur.toList.drop (off + cs.length)).toArray) := by
              intro cur e hh hle
              unfold execOp
              simp only [ho, e1, hu, Sem.run_bind, run_storeAt hE ht hh c2 hrep.len hrep.one hle, Result.andThen_ok]; rfl
            split at hk
            · rename_i h0
              split at hk
              · rename_i hf
                obtain ⟨cur, e, R2, k1, k2, k3⟩ := hi.place (fl := true) hrr hv hn hrep' (by rw [hty]; exact hf.symm) (by simp)
                have k3 := k3 { st' with boxes := bset r { b with x := cput b.t b.x q (hty ▸ y'), row := none } st'.boxes } (fun j => by
                  show bget (bset r _ st'.boxes) j = _
                  rw [bget_bset, if_pos (c := lev q = 0) h0, if_neg (show ¬ (true = false ∧ _) by simp)]) (by rw [if_pos rfl])
                exact wp_skip_to (hrun cur e k1 k2) hd (fun b hb => g.im b (hI b hb)) k3 hk
              · rename_i hf
                obtain ⟨cur, e, R2, k1, k2, k3⟩ := hi.place (fl := false) hrr hv hn hrep' (by rw [hty]; simpa using hf) (fun _ hne => absurd h0 hne)
                have k3 := k3 (st'.turn r 0 { b with x := cput b.t b.x q (hty ▸ y'), m := mput b.m q m, row := none }) (fun j => by
                  show bget (bset r _ st'.boxes) j = _
                  rw [bget_bset, if_pos (c := lev q = 0) h0, if_pos (show false = false ∧ lev q = 0 from ⟨rfl, h0⟩)]) (by rw [if_neg (by simp), h0]; rfl)
                exact wp_skip_to (hrun cur e k1 k2) hd (fun b hb => g.im b (hI b hb)) k3 hk
            · rename_i h0
              split at hk
              · rename_i hf
                obtain ⟨cur, e, R2, k1, k2, k3⟩ := hi.place (fl := true) hrr hv hn hrep' (by rw [hty]; exact hf.symm) (by simp)
                have k3 := k3 { st' with boxes := bset r { b with x := cput b.t b.x q (hty ▸ y') } st'.boxes } (fun j => by
                  show bget (bset r _ st'.boxes) j = _
                  rw [bget_bset, if_neg (c := lev q = 0) h0, if_neg (show ¬ (true = false ∧ _) by simp)]) (by rw [if_pos rfl])
                exact wp_skip_to (hrun cur e k1 k2) hd (fun b hb => g.im b (hI b hb)) k3 hk
              · rename_i hf
                split at hk
                · rename_i hm
                  obtain ⟨cur, e, R2, k1, k2, k3⟩ := hi.place (fl := false) hrr hv hn (hrep'.same (n := mget b.m q) (by rw [hty]; exact hm)) (by rw [hty]; simpa using hf) (fun _ _ => rfl)
                  have k3 := k3 (st'.turn r (lev q) { b with x := cput b.t b.x q (hty ▸ y') }) (fun j => by
                    show bget (bset r _ st'.boxes) j = _
                    rw [bget_bset, if_neg (c := lev q = 0) h0, if_neg (show ¬ (false = false ∧ lev q = 0) by simp [h0])]) (by rw [if_neg (by simp)]; rfl)
                  exact wp_skip_to (hrun cur e k1 k2) hd (fun b hb => g.im b (hI b hb)) k3 hk
                · cases hk
          · cases hk
        · cases hk
      · cases hk
    · cases hk
  · cases hk
theorem tagOf_some {bs : List (Nat × Bx)} {s : SV} {t : Ty} {k : Nat × Nat} (h : tagOf bs s t = some k) : ∃ n, k = (n, 0) ∧ tagged bs n s t 0 = true := by
  unfold tagOf at h
  split at h
  · rename_i n hn
    split at h
    · rename_i ht
      cases h
      exact ⟨n, rfl, ht⟩
    · cases h
  · cases h
theorem tagged_ne {bs : List (Nat × Bx)} {n : Nat} {s : SV} {t : Ty} {o : Nat} (h : tagged bs n s t o = true) : s ≠ .undef ∧ s ≠ .tnil ∧ ∀ a b, s ≠ .tcons a b := by
  refine ⟨?_, ?_, ?_⟩
  · rintro rfl; simp [tagged] at h
  · rintro rfl; simp [tagged] at h
  · rintro a b rfl; simp [tagged] at h
theorem rowOffs_in : ∀ {t : Ty} {o j : Nat}, j ∈ rowOffs t o → o ≤ j ∧ j < o + sz t := by
  intro t
  induction t with
  | pair a b iha ihb =>
    intro o j hj
    simp only [rowOffs, List.mem_append] at hj
    simp only [sz]
    rcases hj with hj | hj
    · have := iha hj; omega
    · have := ihb hj; omega
  | slc t ih => intro o j hj; simp only [rowOffs, List.mem_singleton] at hj; subst hj; simp [sz]
  | mp k v ihk ihv => intro o j hj; simp only [rowOffs, List.mem_singleton] at hj; subst hj; simp [sz]
  | _ => intro o j hj; simp [rowOffs] at hj
theorem tagged_ok (h : Inv G st vs w Im R hand) {n : Nat} : ∀ {s : SV} {t : Ty} {o : Nat} {cs : List Value}, tagged st.boxes n s t o = true → SVX w Im R s false cs → cs.length = sz t ∧ ∀ j ∈ rowOffs t o, ∀ c, cs[j - o]? = some c → G.hd n j = c := by
  intro s
  induction s with
  | agg a b iha ihb =>
    intro t o cs ht hs
    cases t with
    | pair ta tb =>
      simp only [tagged, Bool.and_eq_true] at ht
      obtain ⟨c1, c2, rfl, s1, s2⟩ := hs
      obtain ⟨l1, q1⟩ := iha ht.1 s1
      obtain ⟨l2, q2⟩ := ihb ht.2 s2
      refine ⟨by simp [sz, l1, l2], fun j hj c hc => ?_⟩
      simp only [rowOffs, List.mem_append] at hj
      rcases hj with hj | hj
      · have hin := rowOffs_in hj
        rw [List.getElem?_append_left (by omega)] at hc
        exact q1 j hj c hc
      · have hin := rowOffs_in hj
        rw [List.getElem?_append_right (by omega)] at hc
        refine q2 j hj c ?_
        rw [← hc]; congr 1; omega
    | _ => simp [tagged] at ht
  | ref r q =>
    intro t o cs ht hs
    cases q with
    | cons => simp [tagged] at ht
    | nil =>
      cases t with
      | slc t =>
        simp only [tagged] at ht
        split at ht
        · rename_i b hb
          simp only [Bool.and_eq_true, Option.isNone_iff_eq_none, beq_iff_eq] at ht
          obtain ⟨rb, hr⟩ := h.real hb
          obtain ⟨v, rfl, hu⟩ := hs
          obtain ⟨_, _, ad, hn⟩ := hu b rb hr
          simp only [nav, Option.some.injEq, Prod.mk.injEq] at hn
          have hh := (h.row r b rb hr _ ht.2).1 ht.1
          rw [hn.1] at hh
          refine ⟨rfl, fun j hj c hc => ?_⟩
          simp only [rowOffs, List.mem_singleton] at hj
          subst hj
          simp at hc
          simp at hh
          rw [← hc]; exact hh.symm
        · cases ht
      | _ => simp [tagged] at ht
  | con t' x =>
    intro t o cs ht hs
    simp only [tagged, Bool.and_eq_true, decide_eq_true_eq, List.isEmpty_iff] at ht
    obtain ⟨rfl, he⟩ := ht
    exact ⟨hs.len, fun j hj => by rw [he] at hj; simp at hj⟩
  | _ => intro t o cs ht; simp [tagged] at ht
theorem step_box (hE : EnvOk P E) (hd : a.defers = []) (hI : ∀ b, I0 b → Im b) (h : Inv G st a.tmps w Im R []) {e : TypeId} {x : Operand} (ho : o.op = .box e x) {te : TE} (ht : E.get e = some te) {d : Tmp} (hdst : o.dst = some d) {m : Md}
    (hk : toC st (st.ev x) te.ty m (fun x' m st1 => K ((st1.lay (d * 16) { mem := some e, t := te.ty, m := m, x := x', row := tagOf st.boxes (st.ev x) te.ty }).set (some d) (.ptr (d * 16) []))) = some r0) : o.wp P a w (Post G I0 K r0) Q := by
  obtain ⟨cs, y', m, st', Im', R', h1, c1, c2, hk, hi, hrep, g, hsv, hq⟩ := toC_val (r0 := r0) hk h (h.ev x)
  have hrun : (execOp a.eval o).run P w = .ok (.value (.pointer (some ⟨w.heap.size, 0, none⟩))) (w.alloc (.cells (a.eval x).cells e)) := by
    unfold execOp
    simp [ho, Instr.box, newVar, newRow]
  have hi2 := hi.alloc (a.eval x).cells e
  have ec : (a.eval x).cells = cs.toArray := by rw [← c2]
  rw [ec] at hi2 hrun
  have hi3 := (hi2.perm (hand' := [] ++ ((w.heap.size, .cells cs.toArray e) :: h1)) (by simp))
  have gr : Grow w (w.alloc (.cells cs.toArray e)) Im' Im' := Grow.alloc (fun b hb => hi.sep.imlt b hb) _
  have h2 := hi3.lay (d * 16) (b := { mem := some e, t := te.ty, m := m, x := y', row := tagOf st.boxes (st.ev x) te.ty }) (rb := ⟨w.heap.size, cs, h1⟩) (hrep.grow gr) rfl (fun k hk => ⟨fun hm => (by cases hm), fun _ j hj c hc => by
    obtain ⟨n, e2, e3⟩ := tagOf_some hk
    subst e2
    obtain ⟨n1, n2, n3⟩ := tagged_ne e3
    obtain ⟨cs2, q1, q2⟩ := (h.ev x).cells n1 n2 n3
    have ecs : cs2 = cs := by
      by_cases hag : isAgg (st.ev x) = true
      · rw [if_pos hag] at c1 q1
        rw [c1] at q1
        have : cs.toArray = cs2.toArray := by simpa using q1
        exact (List.toArray_inj this).symm
      · rw [if_neg hag] at c1 q1
        rw [c1, q1]
    rw [ecs] at q2
    have := (tagged_ok h e3 q2).2 j hj c (by simpa using hc)
    rw [Nat.zero_add]; exact this⟩)
  rw [← hdst] at hk
  exact wp_to hrun hd (fun b hb => g.im b (hI b hb)) h2 (ptr_ok rfl R') hk
end
end Go.Proofs.YtgdaiifhedpffaaDoor.V
set_option linter.unusedVariables false
set_option linter.unusedSimpArgs false
namespace Go.Proofs.YtgdaiifhedpffaaDoor.V
open Go
theorem flat_im {w w' : World} {Im Im' : Nat → Prop} : ∀ {t : Ty} {m m' : Md} {x : den t} {cs : List Value} {h : Frag}, flat t = true → Rep w Im t m x cs h → h = [] ∧ Rep w' Im' t m' x cs []
  | .int _, _, _, _, _, _, _, r => ⟨r.2, r.1, rfl⟩
  | .bool, _, _, _, _, _, _, r => ⟨r.2, r.1, rfl⟩
  | .str, _, _, _, _, _, _, r => ⟨r.2, r.1, rfl⟩
  | .raw, _, _, _, _, _, _, r => ⟨r.2.2, r.1, r.2.1, rfl⟩
  | .unit, _, _, _, _, _, _, r => ⟨r.2, r.1, rfl⟩
  | .pair a b, m, m', x, cs, h, hf, ⟨c1, c2, h1, h2, e1, e2, r1, r2⟩ => by
    simp only [flat, Bool.and_eq_true] at hf
    obtain ⟨f1, g1⟩ := flat_im (m' := m'.fst) hf.1 r1
    obtain ⟨f2, g2⟩ := flat_im (m' := m'.snd) hf.2 r2
    subst f1; subst f2
    exact ⟨e2, c1, c2, [], [], e1, rfl, g1, g2⟩
  | .slc t, _, _, _, _, _, hf, _ => by simp [flat] at hf
theorem flat_rows {w w' : World} {Im Im' : Nat → Prop} {t : Ty} {m m' : Md} (hf : flat t = true) : ∀ {xs : List (den t)} {cs : List Value} {h : Frag}, RepL (fun x cs h => Rep w Im t m x cs h) xs cs h → h = [] ∧ RepL (fun x cs h => Rep w' Im' t m' x cs h) xs cs []
  | [], _, _, r => ⟨r, rfl⟩
  | _ :: _, _, _, ⟨c1, c2, h1, h2, e1, e2, r1, r2⟩ => by
    obtain ⟨f1, g1⟩ := flat_im (m' := m') hf r1
    obtain ⟨f2, g2⟩ := flat_rows (m' := m') hf r2
    subst f1; subst f2
    exact ⟨e2, c1, c2, [], [], e1, rfl, g1, g2⟩
section
variable {P : Program} {G : Gl} {I0 : Nat → Prop} {st st1 : St} {a : Act} {vs : Array Value} {w w' : World} {Im : Nat → Prop} {R : Real} {hand hand' : Frag} {o : Oper} {T : Type} {K : St → Option T} {r0 : T} {Q : Exit → Act → World → Prop} {E : Env}
theorem Inv.setHand {h' : Frag} {k0 : Nat} {c0 : Array Value} {e0 : TypeId} (h : Inv G st vs w Im R ((k0, .cells c0 e0) :: h')) (cN : Array Value) : Inv G st vs (w.setRow k0 cN) Im R ((k0, .cells cN e0) :: h') := by
  have hin : (k0, .cells c0 e0) ∈ own R ((k0, .cells c0 e0) :: h') 0 := List.mem_cons_self ..
  have kin : k0 ∈ keys (own R ((k0, .cells c0 e0) :: h') 0) := keys_mem.2 ⟨_, hin, rfl⟩
  have hh0 : w.heap[k0]? = some (.cells c0 e0 (0, 0)) := h.sep.heap 0 _ hin
  have other : ∀ k, k ≠ k0 → (w.setRow k0 cN).heap[k]? = w.heap[k]? := fun k hk => setRow_other w k0 k cN hk
  have g : Grow w (w.setRow k0 cN) Im Im := ⟨fun _ h => h, fun k hk => other k (fun e => h.sep.im _ _ kin (e ▸ hk))⟩
  have hsv := h.sv g (R' := R) (p := fun _ _ _ => false) (fun j => .inl ⟨rfl, fun b2 rb2 hb2 k hk => other k (fun e => by
    subst e
    refine h.sep.sep 0 (j + 1) (by simp) k kin ?_
    rw [own_at hb2]; obtain ⟨p, hp, e⟩ := keys_mem.1 hk; exact keys_mem.2 ⟨p, fragOf_sub p hp, e⟩)⟩)
  have hk : ∀ i, keys (own R ((k0, .cells cN e0) :: h') i) = keys (own R ((k0, .cells c0 e0) :: h') i) := fun i => by cases i <;> rfl
  refine ⟨h.box, fun j b r hb => (h.rep j b r hb).grow g, ⟨fun i => by rw [hk]; exact h.sep.nod i, fun i j hij k => by rw [hk, hk]; exact h.sep.sep i j hij k, fun i p hp => ?_, fun i k => by rw [hk]; exact h.sep.im i k, fun i k => by rw [hk]; exact h.sep.fresh i k,
    fun k hk => by rw [Keep.setRow.setRow_size']; exact h.sep.imlt k hk, h.sep.imok⟩, fun n => ?_, h.len, h.keep.setRow (h.sep.fresh 0 k0 kin), h.row⟩
  · cases i with
    | zero =>
      rcases List.mem_cons.1 hp with e | hp
      · subst e; exact setRow_heap w k0 c0 cN e0 (0, 0) hh0
      · have hne : p.1 ≠ k0 := fun e => by
          have := h.sep.nod 0
          rw [own_zero, keys_cons] at this
          exact (List.nodup_cons.1 this).1 (keys_mem.2 ⟨p, hp, e⟩)
        rw [other _ hne]; exact h.sep.heap 0 p (List.mem_cons_of_mem _ hp)
    | succ i =>
      have hne : p.1 ≠ k0 := fun e => h.sep.sep (i + 1) 0 (by simp) p.1 (keys_mem.2 ⟨p, hp, rfl⟩) (e ▸ kin)
      rw [other _ hne]; exact h.sep.heap (i + 1) p hp
  · have := hsv.2 (h.slots n); rwa [forget_none] at this
theorem src_of {tx e' : TypeId} (hk : P.underlying tx = some (.slice e')) {t : Ty} {m m1 : Md} {ys : List (den t)} {v : Value} {h : Frag} (r : Rep w Im (.slc t) m ys [v] h) (hh : ∀ p ∈ h, w.heap[p.1]? = some p.2)
    (hm : (m = .ro ∧ m1 = .ro) ∨ m = .own m1) : ∃ news h2, Src P (sz t) tx v ys.length news w ∧ RepL (fun x cs h => Rep w Im t m1 x cs h) ys news h2 ∧ List.Sublist h2 h := by
  have go : ∀ {b o : Nat} {c : Array Value} {e : TypeId} {fz : Nat × Nat} {cap : Nat} {h2 : Frag}, w.heap[b]? = some (.cells c e fz) → RepL (fun x cs h => Rep w Im t m1 x cs h) ys (c.toList.drop o) h2 →
      ∃ news, Src P (sz t) tx (.slice (some ⟨b, o, none⟩) ys.length cap) ys.length news w ∧ RepL (fun x cs h => Rep w Im t m1 x cs h) ys news h2 := by
    intro b o c e fz cap h2 hb hr
    have hlen := hr.len (n := sz t) (fun _ _ _ r => r.len)
    refine ⟨(c.toList.drop o).take (ys.length * sz t), Src.ofSlice w hk _ _ _ _ (by rw [List.length_take]; omega) (fun j u hu => ?_) (hr.all (fun _ _ _ r => r.one) (fun _ _ _ r => r.len)), hr.cut (fun _ _ _ r => r.len) (by rw [List.take_take, Nat.min_self])⟩
    have hj : j < ys.length * sz t := by
      have := (List.getElem?_eq_some_iff.1 hu).1
      rw [List.length_take] at this; omega
    rw [List.getElem?_take_of_lt hj, List.getElem?_drop] at hu
    rw [add_at]
    simp only [World.cell?, hb]
    simpa using hu
  have nil : ∀ {A : Option Addr} {cap : Nat}, Src P (sz t) tx (.slice A 0 cap) 0 [] w := by
    intro A cap
    cases A with
    | none => exact Src.ofNil w hk cap
    | some a => exact Src.ofSlice w hk a 0 cap [] (by simp) (fun j u hu => by simp at hu) (fun _ h => by cases h)
  rcases hm with ⟨rfl, rfl⟩ | rfl
  · obtain ⟨h0, A, cap, e, hc, hr⟩ := r
    simp at e; subst e
    by_cases hy : ys = []
    · subst hy; exact ⟨[], [], nil, rfl, List.nil_sublist _⟩
    · obtain ⟨b, o, c, e, fz, rfl, _, hb, hr⟩ := hr hy
      obtain ⟨news, s1, s2⟩ := go (cap := cap) hb hr
      exact ⟨news, [], s1, s2, List.nil_sublist _⟩
  · rcases r with ⟨e0, ⟨A, e⟩, e2⟩ | ⟨b, o, c, e, cap, h', e1, e2, e3, e4, e5, hr⟩
    · subst e0; simp at e; subst e; exact ⟨[], [], nil, rfl, List.nil_sublist _⟩
    · simp at e1; subst e1; subst e2
      obtain ⟨news, s1, s2⟩ := go (cap := cap) (hh _ (List.mem_cons_self ..)) hr
      exact ⟨news, h', s1, s2, List.sublist_cons_self ..⟩
theorem run_append_room_row (t tx ty e : TypeId) (i : TypeInfo) (ht : P.underlying t = some (.slice e)) (hi : P.info? e = some i) (b off sLen sCap : Nat) (x : Value) (n : Nat) (news : List Value) (hs : Src P i.size tx x n news w)
    (hroom : sLen + n ≤ sCap) {cur : Array Value} {e' : TypeId} (hh : w.heap[b]? = some (.cells cur e' (0, 0))) (hb : off + sLen * i.size + news.length ≤ cur.size) :
    (Builtin.append_ #[t, tx] ty #[.slice (some ⟨b, off, none⟩) sLen sCap, x]).run P w = .ok (.slice (some ⟨b, off, none⟩) (sLen + n) sCap)
      (w.setRow b (cur.toList.take (off + sLen * i.size) ++ news ++ cur.toList.drop (off + sLen * i.size + news.length)).toArray) := by
  have hst := run_storeCells_at P b (off + sLen * i.size) e' news 0 cur w hh (by simpa using hb) hs.one
  simp only [Nat.add_zero] at hst
  rcases hs.kind with ⟨e', hk⟩ | hk <;> simp [Builtin.append_, run_underlying ht, run_underlying hk, sizeOf, typeInfo, hi, hs.len, hroom, hs.cells, Addr.add_lit, hst]
structure Runs (P : Program) (w : World) (t tx ty e : TypeId) (i : TypeInfo) (v : Value) (n : Nat) (news : List Value) : Prop where
  len : news.length = n * i.size
  nothing : n = 0 → ∀ A, (Builtin.append_ #[t, tx] ty #[.slice A 0 0, v]).run P w = .ok (.slice A 0 0) w
  room : ∀ (b off sLen sCap : Nat) (cur : Array Value) (e' : TypeId), sLen + n ≤ sCap → w.heap[b]? = some (.cells cur e' (0, 0)) → off + sLen * i.size + news.length ≤ cur.size →
    (Builtin.append_ #[t, tx] ty #[.slice (some ⟨b, off, none⟩) sLen sCap, v]).run P w = .ok (.slice (some ⟨b, off, none⟩) (sLen + n) sCap)
      (w.setRow b (cur.toList.take (off + sLen * i.size) ++ news ++ cur.toList.drop (off + sLen * i.size + news.length)).toArray)
  grow : ∀ (z : Value), i.zero = some z → ∀ (base : Option Addr) (sLen sCap : Nat) (olds : List Value), (Builtin.firstCells i.size sLen (.slice base sLen sCap)).run P w.drew = .ok olds.toArray w.drew →
    sCap < sLen + n → ((sLen + n : Nat) : Int) ≤ 9223372036854775807 → Builtin.nextslicecap (sLen + n) sCap * i.bytes ≤ 281474976710656 →
    (Builtin.append_ #[t, tx] ty #[.slice base sLen sCap, v]).run P w = .ok (.slice (some ⟨w.heap.size, 0, none⟩) (sLen + n) (grownCap w (sLen + n) sCap e))
      (w.drew.alloc (.cells ((olds ++ news).toArray ++ Builtin.zeroCells z.cells (grownCap w (sLen + n) sCap e - (sLen + n))) e))
theorem Runs.ofSrc {t tx ty e : TypeId} {i : TypeInfo} {v : Value} {n : Nat} {news : List Value} (hk : P.underlying t = some (.slice e)) (hi : P.info? e = some i) (src : Src P i.size tx v n news w) : Runs P w t tx ty e i v n news where
  len := src.newsLen
  nothing := fun h0 A => by
    subst h0
    have : news = [] := by have := src.newsLen; simpa using this
    subst this
    exact run_append_nothing w t tx ty e i hk hi A 0 0 (Nat.le_refl _) v src
  room := fun b off sLen sCap cur e' hroom hh hb => run_append_room_row (P := P) (w := w) t tx ty e i hk hi b off sLen sCap v n news src hroom hh hb
  grow := fun z hz base sLen sCap olds hold hg h63 hfit => run_append_grow_src (P := P) w t tx ty e i z hk hi hz base sLen sCap olds hold v n news src hg h63 hfit
theorem append_gen {t tx ty e e' : TypeId} {te : TE} {i : TypeInfo} (hk : P.underlying t = some (.slice e)) (hi : InfoOk P e te i) (hz : te.z = true) {mm : Md} {xs ys : List (den te.ty)} {v1 v2 : Value} {h1 h2 : Frag} {news : List Value}
    (h : Inv G st vs w Im R (h1 ++ h2)) (r1 : Rep w Im (.slc te.ty) (.own mm) xs [v1] h1) (src : Runs P w t tx ty e i v2 ys.length news) (r2 : RepL (fun x cs h => Rep w Im te.ty mm x cs h) ys news h2)
    (hmost : (xs.length + ys.length) * te.bytes ≤ most) (hby : 0 < te.bytes) :
    ∃ v' w' h', (Builtin.append_ #[t, tx] ty #[v1, v2]).run P w = .ok v' w' ∧ Inv G st vs w' Im R h' ∧ Rep w' Im (.slc te.ty) (.own mm) (xs ++ ys) [v'] h' ∧ Grow w w' Im Im := by
  obtain ⟨z, hz1, hz2⟩ := hi.zero hz
  have hnl : news.length = ys.length * sz te.ty := by rw [src.len, hi.size]
  have hlen63 : xs.length + ys.length ≤ 140737488355328 := by
    have : (xs.length + ys.length) * 1 ≤ (xs.length + ys.length) * te.bytes := Nat.mul_le_mul_left _ hby
    have e1 : most = 140737488355328 := rfl
    omega
  have grow : ∀ {A : Option Addr} {cap : Nat} {olds : List Value} {g1 : Frag}, v1 = .slice A xs.length cap → cap < xs.length + ys.length →
      (∀ w : World, w.heap = w.heap → True) → (Builtin.firstCells i.size xs.length (.slice A xs.length cap)).run P w.drew = .ok olds.toArray w.drew → olds.length = xs.length * sz te.ty →
      RepL (fun x cs h => Rep w Im te.ty mm x cs h) xs olds g1 → List.Sublist g1 h1 →
      ∃ v' w' h', (Builtin.append_ #[t, tx] ty #[v1, v2]).run P w = .ok v' w' ∧ Inv G st vs w' Im R h' ∧ Rep w' Im (.slc te.ty) (.own mm) (xs ++ ys) [v'] h' ∧ Grow w w' Im Im := by
    intro A cap olds g1 e1 hg _ hold hol hr1 hsub
    subst e1
    have hrun := src.grow z hz1 A xs.length cap olds hold hg (by omega) (growslice_fits hg (by rw [hi.bytes]; exact hmost))
    have hge := grownCap_ge w (xs.length + ys.length) cap e
    have hcm := grownCap_le_maxLen w (xs.length + ys.length) cap e (by simp only [maxLen]; omega)
    have h3 := (h.less (hand := []) (h2 := g1 ++ h2) (hsub.append (List.Sublist.refl _))).drew.alloc ((olds ++ news).toArray ++ Builtin.zeroCells z.cells (grownCap w (xs.length + ys.length) cap e - (xs.length + ys.length))) e
    have g : Grow w (w.drew.alloc (.cells ((olds ++ news).toArray ++ Builtin.zeroCells z.cells (grownCap w (xs.length + ys.length) cap e - (xs.length + ys.length))) e)) Im Im :=
      ⟨fun _ h => h, fun b hb => Go.heap_alloc_old w.drew _ (h.sep.imlt b hb)⟩
    refine ⟨_, _, (w.heap.size, .cells _ e) :: (g1 ++ h2), hrun, h3.perm (by
      rw [List.nil_append]
      exact List.perm_append_singleton _ (g1 ++ h2)), .inr ⟨w.heap.size, 0, _, e, _, g1 ++ h2, by simp, rfl, by simpa using hge, hcm, ?_, ?_⟩, g⟩
    · have hzs : z.cells.size = sz te.ty := by rw [← zcells_len, ← hz2]; simp
      simp only [Array.size_append, List.size_toArray, size_zeroCells, hzs, List.length_append, hol, hnl, ← Nat.add_mul]
      rw [Nat.zero_add]
      exact Nat.mul_le_mul_right _ (by omega)
    · have k1 : RepL (fun x cs h => Rep (w.drew.alloc (.cells ((olds ++ news).toArray ++ Builtin.zeroCells z.cells (grownCap w (xs.length + ys.length) cap e - (xs.length + ys.length))) e)) Im te.ty mm x cs h) xs olds g1 := hr1.mono (fun _ _ _ r => r.grow g)
      have k2 := r2.mono (fun _ _ _ r => Rep.grow g r)
      simp only [Array.toList_append, List.drop_zero]
      refine RepL.app (n := sz te.ty) (cs := olds) (fun _ _ _ r => r.len) k1 ?_ ?_
      · rw [← hol]
        have : ((olds ++ news) ++ (Builtin.zeroCells z.cells (grownCap w (xs.length + ys.length) cap e - (xs.length + ys.length))).toList).drop olds.length = news ++ (Builtin.zeroCells z.cells (grownCap w (xs.length + ys.length) cap e - (xs.length + ys.length))).toList := by simp
        rw [this]
        exact RepL.cut (n := sz te.ty) (fun _ _ _ r => r.len) k2 (by rw [← hnl]; simp)
      · rw [← hol]; simp
  rcases r1 with ⟨e0, ⟨A, e1⟩, e2⟩ | ⟨b, o, c, eb, cap, g1, e1, e2, e3, e4, e5, e6⟩
  · simp at e1
    by_cases hy : ys = []
    · subst e0; subst hy; subst e1; subst e2
      have r2 : h2 = [] := r2
      subst r2
      simp at hnl; subst hnl
      exact ⟨_, w, [], src.nothing rfl A, h, .inl ⟨rfl, ⟨A, rfl⟩, rfl⟩, Grow.refl _ _⟩
    · have hpos : 0 < ys.length := by cases ys with
        | nil => exact absurd rfl hy
        | cons _ _ => simp
      refine grow (A := A) (cap := 0) (olds := []) (g1 := []) (by rw [e0, e1]; rfl) (by omega) (fun _ _ => trivial) ?_ (by rw [e0]; simp) (by rw [e0]; rfl) (List.nil_sublist _)
      rw [e0]
      cases A with
      | none => exact run_firstCells_none w.drew _ 0 0 0
      | some a => exact run_firstCells_some w.drew _ 0 a 0 0 [] (by simp) (fun j u hu => by simp at hu)
  · simp at e1
    subst e2
    have hh0 : w.heap[b]? = some (.cells c eb (0, 0)) := h.sep.heap 0 (b, .cells c eb) (by rw [own_zero]; simp)
    have hl6 := e6.len (n := sz te.ty) (fun _ _ _ r => r.len)
    by_cases hroom : xs.length + ys.length ≤ cap
    · have hle : o + xs.length * i.size + news.length ≤ c.size := by
        rw [hi.size, hnl]
        have := Nat.mul_le_mul_right (sz te.ty) hroom
        rw [Nat.add_mul] at this; omega
      have hrun := src.room b o xs.length cap c eb hroom hh0 hle
      rw [hi.size] at hrun hle
      have h4 := h.setHand (c.toList.take (o + xs.length * sz te.ty) ++ news ++ c.toList.drop (o + xs.length * sz te.ty + news.length)).toArray
      have g : Grow w (w.setRow b (c.toList.take (o + xs.length * sz te.ty) ++ news ++ c.toList.drop (o + xs.length * sz te.ty + news.length)).toArray) Im Im :=
        ⟨fun _ h => h, fun k hk => setRow_other _ _ _ _ (by rintro rfl; exact h.sep.im 0 _ (by rw [own_zero]; simp [keys]) hk)⟩
      rw [e1]
      refine ⟨_, _, _, hrun, h4, .inr ⟨b, o, _, eb, cap, g1 ++ h2, by simp, rfl, by simpa using hroom, e4, ?_, ?_⟩, g⟩
      · simp; omega
      · have hol : (c.toList.take (o + xs.length * sz te.ty)).length = o + xs.length * sz te.ty := by simp; omega
        have hd : ((c.toList.take (o + xs.length * sz te.ty) ++ news ++ c.toList.drop (o + xs.length * sz te.ty + news.length)).toArray.toList).drop o =
            (c.toList.drop o).take (xs.length * sz te.ty) ++ (news ++ c.toList.drop (o + xs.length * sz te.ty + news.length)) := by
          simp only [List.append_assoc]
          rw [List.drop_append_of_le_length (by rw [hol]; omega), List.drop_take, Nat.add_sub_cancel_left]
        rw [hd]
        have hx : ((c.toList.drop o).take (xs.length * sz te.ty)).length = xs.length * sz te.ty := by rw [List.length_take]; omega
        refine RepL.app (n := sz te.ty) (fun _ _ _ r => r.len) (e6.mono fun _ _ _ r => Rep.grow g r) ?_ ?_
        · have e8 : (List.take (xs.length * sz te.ty) (List.drop o c.toList) ++ (news ++ List.drop (o + xs.length * sz te.ty + news.length) c.toList)).drop (xs.length * sz te.ty) = news ++ List.drop (o + xs.length * sz te.ty + news.length) c.toList := by
            rw [List.drop_append_of_le_length (by omega), List.drop_of_length_le (by omega)]; simp
          rw [e8]
          exact RepL.cut (n := sz te.ty) (fun _ _ _ r => r.len) (r2.mono fun _ _ _ r => Rep.grow g r) (by rw [← hnl]; simp)
        · rw [List.take_append_of_le_length (by omega), List.take_take, Nat.min_self]
    · refine grow (A := some ⟨b, o, none⟩) (cap := cap) (olds := (c.toList.drop o).take (xs.length * sz te.ty)) (g1 := g1) e1 (by omega) (fun _ _ => trivial) ?_ ?_ ?_ (List.sublist_cons_self ..)
      · refine run_firstCells_some w.drew _ _ _ _ _ _ (by rw [List.length_take, hi.size]; omega) (fun j u hu => ?_)
        have hj : j < xs.length * sz te.ty := by
          have := (List.getElem?_eq_some_iff.1 hu).1
          rw [List.length_take] at this; omega
        rw [List.getElem?_take_of_lt hj, List.getElem?_drop] at hu
        rw [add_at]
        have : w.drew.heap[b]? = some (.cells c eb (0, 0)) := hh0
        simp only [World.cell?, this]
        simpa using hu
      · rw [List.length_take]; omega
      · exact e6.cut (fun _ _ _ r => r.len) (by rw [List.take_take, Nat.min_self])
theorem append_own {t tx ty e e' : TypeId} {te : TE} {i : TypeInfo} (hk : P.underlying t = some (.slice e)) (hi : InfoOk P e te i) (hz : te.z = true) {mm : Md} {xs ys : List (den te.ty)} {v1 v2 : Value} {h1 h2 : Frag} {news : List Value}
    (h : Inv G st vs w Im R (h1 ++ h2)) (r1 : Rep w Im (.slc te.ty) (.own mm) xs [v1] h1) (src : Src P (sz te.ty) tx v2 ys.length news w) (r2 : RepL (fun x cs h => Rep w Im te.ty mm x cs h) ys news h2)
    (hmost : (xs.length + ys.length) * te.bytes ≤ most) (hby : 0 < te.bytes) :
    ∃ v' w' h', (Builtin.append_ #[t, tx] ty #[v1, v2]).run P w = .ok v' w' ∧ Inv G st vs w' Im R h' ∧ Rep w' Im (.slc te.ty) (.own mm) (xs ++ ys) [v'] h' ∧ Grow w w' Im Im :=
  append_gen (e' := e') hk hi hz h r1 (.ofSrc hk hi.info (by rw [hi.size]; exact src)) r2 hmost hby
end
end Go.Proofs.YtgdaiifhedpffaaDoor.V
set_option linter.unusedVariables false
set_option linter.unusedSimpArgs false
namespace Go.Proofs.YtgdaiifhedpffaaDoor.V
open Go
theorem fill_parts {pl : Nat → Option (Nat × Nat)} : ∀ (parts : List (Nat × Value)) (fcs : List (List Value)), (∀ j c, fcs[j]? = some c → pl j = some ((fcs.take j).flatten.length, c.length)) →
    (∀ p ∈ parts, ∃ c, fcs[p.1]? = some c ∧ p.2.cells.size = c.length) →
    Instr.fill pl fcs.flatten.toArray parts = some (parts.foldl (fun l p => l.set p.1 p.2.cells.toList) fcs).flatten.toArray
  | [], fcs, _, _ => rfl
  | (i, v) :: parts, fcs, hp, hv => by
    obtain ⟨c, h1, h2⟩ := hv (i, v) (List.mem_cons_self ..)
    have h1 : fcs[i]? = some c := h1
    have h2 : v.cells.size = c.length := h2
    obtain ⟨hlt, hc⟩ := List.getElem?_eq_some_iff.1 h1
    have hpi := hp i c h1
    have e0 : fcs = fcs.take i ++ c :: fcs.drop (i + 1) := by
      rw [← hc]; exact (by rw [← List.drop_eq_getElem_cons hlt, List.take_append_drop])
    have e1 : fcs.set i v.cells.toList = fcs.take i ++ v.cells.toList :: fcs.drop (i + 1) := List.set_eq_take_append_cons_drop.trans (by rw [if_pos hlt])
    have f0 : fcs.flatten = (fcs.take i).flatten ++ (c ++ (fcs.drop (i + 1)).flatten) := by
      conv => lhs; rw [e0]
      simp
    have f1 : (fcs.set i v.cells.toList).flatten = (fcs.take i).flatten ++ (v.cells.toList ++ (fcs.drop (i + 1)).flatten) := by
      rw [e1]; simp
    have hle : ¬ ((fcs.take i).flatten.length + v.cells.size > fcs.flatten.toArray.size) := by
      rw [List.size_toArray, f0]; simp; omega
    have key : Array.foldl (fun cs (x : Value × Nat) => cs.setIfInBounds ((fcs.take i).flatten.length + x.2) x.1) fcs.flatten.toArray v.cells.zipIdx = (fcs.set i v.cells.toList).flatten.toArray := by
      rw [← Array.foldl_toList, Array.toList_zipIdx]
      obtain ⟨g1, g2⟩ := Great.foldl_set (fcs.take i).flatten.length v.cells.toList 0 fcs.flatten.toArray
      apply Array.ext_getElem?
      intro k
      rw [g2 k, f1]
      simp only [Nat.add_zero, List.size_toArray, Array.length_toList, List.getElem?_toArray, h2]
      have hl : v.cells.toList.length = c.length := by rw [Array.length_toList, h2]
      by_cases k1 : k < (fcs.take i).flatten.length
      · rw [if_neg (by omega), f0, List.getElem?_append_left k1, List.getElem?_append_left k1]
      · rw [List.getElem?_append_right (by omega)]
        by_cases k2 : k < (fcs.take i).flatten.length + c.length
        · rw [if_pos ⟨by omega, k2, by rw [f0, List.length_append, List.length_append]; omega⟩, List.getElem?_append_left (by omega)]
        · rw [if_neg (by omega), f0, List.getElem?_append_right (by omega), List.getElem?_append_right (by omega), List.getElem?_append_right (by omega), hl]
    refine Eq.trans ?_ (fill_parts (pl := pl) parts (fcs.set i v.cells.toList) (fun j c' hj => ?_) (fun p hpp => ?_))
    · rw [← key]
      simp only [Instr.fill, hpi, h2]
      rw [if_neg (by rw [h2] at hle; simp at hle ⊢; exact hle)]
    · have hl : v.cells.toList.length = c.length := by rw [Array.length_toList, h2]
      by_cases hij : i = j
      · subst hij
        rw [List.getElem?_set_self hlt] at hj
        cases hj
        rw [hpi, List.take_set_of_le (Nat.le_refl _), hl]
      · rw [List.getElem?_set_ne hij] at hj
        rw [hp j c' hj]
        congr 2
        by_cases hji : i < j
        · have e2 : ((fcs.set i v.cells.toList).take j).flatten.length = (fcs.take j).flatten.length := by
            rw [List.take_set]
            have e3 : (fcs.take j)[i]? = some c := by rw [List.getElem?_take_of_lt hji]; exact h1
            obtain ⟨q1, q2⟩ := List.getElem?_eq_some_iff.1 e3
            have e4 : fcs.take j = (fcs.take j).take i ++ c :: (fcs.take j).drop (i + 1) := by
              rw [← q2]; exact (by rw [← List.drop_eq_getElem_cons q1, List.take_append_drop])
            rw [List.set_eq_take_append_cons_drop, if_pos q1]
            conv => rhs; rw [e4]
            simp [hl]
          exact e2.symm
        · rw [List.take_set_of_le (by omega)]
    · obtain ⟨c', q1, q2⟩ := hv p (List.mem_cons_of_mem _ hpp)
      have hl : v.cells.toList.length = c.length := by rw [Array.length_toList, h2]
      by_cases hij : i = p.1
      · subst hij
        rw [h1] at q1; cases q1
        exact ⟨v.cells.toList, List.getElem?_set_self hlt, by rw [hl]; exact q2⟩
      · exact ⟨c', by rw [List.getElem?_set_ne hij]; exact q1, q2⟩
section
variable {P : Program} {G : Gl} {I0 : Nat → Prop} {st st1 : St} {a : Act} {vs : Array Value} {w w' : World} {Im : Nat → Prop} {R : Real} {hand hand' : Frag} {o : Oper} {T : Type} {K : St → Option T} {r0 : T} {Q : Exit → Act → World → Prop} {E : Env}
theorem zsv_ok : ∀ t : Ty, SVX w Im R (zsv t) false (zcells t)
  | .pair a b => ⟨_, _, rfl, zsv_ok a, zsv_ok b⟩
  | .slc t => by simp [zsv, SVX, zcells, Value.cells]
  | .mp k v => by simp [zsv, SVX, zcells, Value.cells]
  | .int k => dflt_rep (.int k) .ro
  | .bool => dflt_rep .bool .ro
  | .str => dflt_rep .str .ro
  | .raw => dflt_rep .raw .ro
  | .unit => dflt_rep .unit .ro
def SVL (w : World) (Im : Nat → Prop) (R : Real) : List SV → List (List Value) → List Ty → Prop
  | [], [], [] => True
  | s :: l, c :: fcs, t :: tys => SVX w Im R s false c ∧ c.length = sz t ∧ SVL w Im R l fcs tys
  | _, _, _ => False
theorem SVL.zero : ∀ tys : List Ty, SVL w Im R (tys.map zsv) (tys.map zcells) tys
  | [] => trivial
  | t :: tys => ⟨zsv_ok t, zcells_len t, SVL.zero tys⟩
theorem SVL.agg : ∀ {l : List SV} {fcs : List (List Value)} {tys : List Ty}, SVL w Im R l fcs tys → SVX w Im R (aggOf l) false fcs.flatten
  | [], [], [], _ => ⟨rfl, rfl⟩
  | s :: l, c :: fcs, t :: tys, ⟨h1, _, h2⟩ => ⟨c, fcs.flatten, by simp, h1, h2.agg⟩
theorem SVL.set : ∀ {l : List SV} {fcs : List (List Value)} {tys : List Ty} {i : Nat} {t : Ty} {s : SV} {c : List Value}, SVL w Im R l fcs tys → tys[i]? = some t → SVX w Im R s false c → c.length = sz t → SVL w Im R (l.set i s) (fcs.set i c) tys
  | [], [], [], _, _, _, _, _, ht, _, _ => by simp at ht
  | s :: l, c :: fcs, t :: tys, 0, t', s', c', ⟨h1, h2, h3⟩, ht, hs, hc => by simp at ht; subst ht; exact ⟨hs, hc, h3⟩
  | s :: l, c :: fcs, t :: tys, i + 1, t', s', c', ⟨h1, h2, h3⟩, ht, hs, hc => ⟨h1, h2, h3.set (by simpa using ht) hs hc⟩
theorem SVL.get : ∀ {l : List SV} {fcs : List (List Value)} {tys : List Ty} {i : Nat} {t : Ty}, SVL w Im R l fcs tys → tys[i]? = some t → ∃ c, fcs[i]? = some c ∧ c.length = sz t
  | [], [], [], _, _, _, ht => by simp at ht
  | s :: l, c :: fcs, t :: tys, 0, t', ⟨h1, h2, h3⟩, ht => by simp at ht; subst ht; exact ⟨c, rfl, h2⟩
  | s :: l, c :: fcs, t :: tys, i + 1, t', ⟨h1, h2, h3⟩, ht => h3.get (by simpa using ht)
theorem known_cells {bs : List (Nat × Bx)} {s : SV} {v : Value} (hk : known bs s = true) (hs : SVV w Im R s v) : ∃ cs, (if isAgg s = true then v = .agg cs.toArray else cs = [v]) ∧ SVX w Im R s false cs := by
  refine hs.cells ?_ ?_ ?_
  · rintro rfl; simp [known] at hk
  · rintro rfl; simp [known] at hk
  · rintro x y rfl; simp [known] at hk
theorem Inv.cell1 (h : Inv G st vs w Im R hand) {s : SV} {v : Value} (hk : known st.boxes s = true) (hs : SVX w Im R s false [v]) (hn : isAgg s = false) : v.oneCell' = true := by
  cases s with
  | undef => simp [known] at hk
  | tnil => simp [known] at hk
  | tcons a b => simp [known] at hk
  | con t x => exact Rep.one hs v (List.mem_singleton_self _)
  | nul t x => exact Rep.one (t := .slc t) (m := .rz) hs v (List.mem_singleton_self _)
  | raw u =>
    have hs : [v] = u.cells.toList := hs
    cases u <;> simp [isAgg] at hn <;> simp [known] at hk <;> simp [Value.cells] at hs <;> subst hs <;> rfl
  | emp => obtain ⟨A, e⟩ := hs; simp at e; subst e; rfl
  | agg a b => simp [isAgg] at hn
  | ref r q =>
    obtain ⟨b, hb⟩ := Option.isSome_iff_exists.1 hk
    obtain ⟨u, e, hr⟩ := hs
    simp at e; subst e
    obtain ⟨h1, rb, _, n2, _⟩ := h.ref hb hr
    exact n2.one v (List.mem_singleton_self _)
  | sub r q lo n =>
    obtain ⟨b, hb⟩ := Option.isSome_iff_exists.1 hk
    obtain ⟨u, e, u2, hr, hh⟩ := hs
    simp at e; subst e
    obtain ⟨rb, hrr⟩ := h.real hb
    obtain ⟨t, A, len, cap, A', cap', _, _, e2, _⟩ := hh b rb hrr
    subst e2; rfl
  | ptr r q =>
    obtain ⟨b, hb⟩ := Option.isSome_iff_exists.1 hk
    obtain ⟨u, e, hr⟩ := hs
    simp at e; subst e
    obtain ⟨rb, hrr⟩ := h.real hb
    obtain ⟨_, cs, b', o, _, e2⟩ := hr b rb hrr
    subst e2; rfl
  | pro t x => obtain ⟨b, o, c, e, fz, e1, _⟩ := hs; simp at e1; subst e1; rfl
  | fn f c => obtain ⟨caps, e, _⟩ := hs; simp at e; subst e; rfl
theorem Inv.cells1 (h : Inv G st vs w Im R hand) {s : SV} {v : Value} (hk : known st.boxes s = true) (hs : SVV w Im R s v) : ∃ cs, v.cells.toList = cs ∧ (if isAgg s = true then v = .agg cs.toArray else cs = [v]) ∧ SVX w Im R s false cs := by
  obtain ⟨cs, e, hx⟩ := known_cells hk hs
  refine ⟨cs, ?_, e, hx⟩
  by_cases ha : isAgg s = true
  · rw [if_pos ha] at e; subst e; simp [Value.cells]
  · rw [if_neg ha] at e
    subst e
    have := h.cell1 hk hx (by simpa using ha)
    cases v <;> simp_all [Value.cells, Value.oneCell']
theorem buildL_some {a : Act} (h : Inv G st a.tmps w Im R hand) : ∀ {parts : List (Nat × Operand)} {tys : List Ty} {l l' : List SV} {fcs : List (List Value)}, buildL st parts tys l = some l' → SVL w Im R l fcs tys →
    SVL w Im R l' ((parts.map fun p => (p.1, a.eval p.2)).foldl (fun l p => l.set p.1 p.2.cells.toList) fcs) tys ∧ ∀ p ∈ parts.map (fun p => (p.1, a.eval p.2)), ∃ t, tys[p.1]? = some t ∧ p.2.cells.size = sz t
  | [], tys, l, l', fcs, hb, hl => by
    simp only [buildL, Option.some.injEq] at hb; subst hb
    exact ⟨hl, fun p hp => by simp at hp⟩
  | (i, x) :: parts, tys, l, l', fcs, hb, hl => by
    simp only [buildL] at hb
    split at hb
    · rename_i t ht
      split at hb
      · rename_i hc
        simp only [Bool.and_eq_true] at hc
        obtain ⟨cs, e1, e2, hx⟩ := h.cells1 hc.1 (h.ev x)
        have hlen := fits_len hc.2 hx
        have := buildL_some h hb (hl.set ht hx hlen)
        refine ⟨?_, fun p hp => ?_⟩
        · simp only [List.map_cons, List.foldl_cons]
          rw [e1]; exact this.1
        · rcases List.mem_cons.1 hp with e | hp
          · subst e; exact ⟨t, ht, by rw [← hlen, ← e1]; simp⟩
          · exact this.2 p hp
      · cases hb
    · cases hb
theorem places_some : ∀ {fs : List Field}, (∀ f ∈ fs, ∃ i, P.info? f.type = some i) → ∃ places : List (Nat × Nat), fs.mapM (fun f => (P.info? f.type).map fun i => (f.offset, i.size)) = some places ∧ ∀ (j : Nat) (f : Field) (i : TypeInfo), fs[j]? = some f → P.info? f.type = some i → places[j]? = some (f.offset, i.size)
  | [], _ => ⟨[], rfl, fun j f i h => by simp at h⟩
  | f :: fs, h => by
    obtain ⟨i, hi⟩ := h f (List.mem_cons_self ..)
    obtain ⟨places, h1, h2⟩ := places_some (fs := fs) (fun g hg => h g (List.mem_cons_of_mem _ hg))
    refine ⟨(f.offset, i.size) :: places, by simp [List.mapM_cons, hi, h1], fun j g k hj hk => ?_⟩
    cases j with
    | zero => simp at hj; subst hj; rw [hi] at hk; cases hk; rfl
    | succ j => simpa using h2 j g k (by simpa using hj) hk
theorem zcells_struct : ∀ {t : Ty}, structTy t = true → zcells t = ((fieldTys t).map zcells).flatten
  | .unit, _ => rfl
  | .pair a b, h => by simp [zcells, fieldTys, zcells_struct (t := b) h]
theorem foff_len : ∀ {t : Ty} {j : Nat}, j < (fieldTys t).length → foff t j = (((fieldTys t).map zcells).take j).flatten.length
  | .pair a b, 0, _ => by simp [foff]
  | .pair a b, j + 1, h => by
    simp only [foff, fieldTys, List.map_cons, List.take_succ_cons, List.flatten_cons, List.length_append, zcells_len]
    rw [foff_len (t := b) (j := j) (by simpa [fieldTys] using h)]
theorem step_build (hE : EnvOk P E) (hd : a.defers = []) (hI : ∀ b, I0 b → Im b) (h : Inv G st a.tmps w Im R []) {tid : TypeId} {parts : Array (Nat × Operand)} (ho : o.op = .build tid parts) {te : TE} (ht : E.get tid = some te) {fl : List TypeId} (hdd : te.d = .struct fl) (hz : te.z = true)
    (hk : (buildL st parts.toList (fieldTys te.ty) ((fieldTys te.ty).map zsv)).bind (fun l => K (st.set o.dst (aggOf l))) = some r0) : o.wp P a w (Post G I0 K r0) Q := by
  obtain ⟨l, hl, hk⟩ := Option.bind_eq_some_iff.1 hk
  obtain ⟨⟨it, hi⟩, hu, _⟩ := hE tid te ht
  obtain ⟨z, hz1, hz2⟩ := hi.zero hz
  unfold UndOk at hu
  rw [hdd] at hu
  obtain ⟨fields, u1, u2, u3, u4⟩ := hu
  obtain ⟨g1, g2⟩ := buildL_some h hl (SVL.zero (w := w) (Im := Im) (R := R) (fieldTys te.ty))
  have finfo : ∀ j f, fields[j]? = some f → ∃ i t, P.info? f.type = some i ∧ i.size = sz t ∧ (fieldTys te.ty)[j]? = some t ∧ f.offset = foff te.ty j := by
    intro j f hj
    obtain ⟨e1, fe, e2, e3, e4⟩ := u4 j f hj
    obtain ⟨⟨i, hi⟩, _⟩ := hE _ fe e2
    exact ⟨i, fe.ty, hi.info, hi.size, e3, e1⟩
  obtain ⟨places, p1, p2⟩ := places_some (P := P) (fs := fields.toList) (fun f hf => by
    obtain ⟨j, hj⟩ := List.getElem?_of_mem hf
    obtain ⟨i, t, e1, _⟩ := finfo j f (by simpa using hj)
    exact ⟨i, e1⟩)
  have hfill := fill_parts (pl := (places.toArray[·]?)) ((parts.map fun (p : Nat × Operand) => (p.1, a.eval p.2)).toList) ((fieldTys te.ty).map zcells) (fun j c hc => by
      rw [List.getElem?_map] at hc
      obtain ⟨t, ht, rfl⟩ := Option.map_eq_some_iff.1 hc
      have hlt := (List.getElem?_eq_some_iff.1 ht).1
      obtain ⟨f, hf⟩ : ∃ f, fields[j]? = some f := ⟨fields[j]'(by rw [u3]; exact hlt), by rw [Array.getElem?_eq_getElem]⟩
      obtain ⟨i, t', e1, e2, e3, e4⟩ := finfo j f hf
      rw [ht] at e3; cases e3
      show places.toArray[j]? = _
      rw [List.getElem?_toArray, p2 j f i (by simpa using hf) e1, e4, foff_len hlt, zcells_len, e2]) (fun p hp => by
      rw [Array.toList_map] at hp
      obtain ⟨t, q1, q2⟩ := g2 p hp
      exact ⟨zcells t, by rw [List.getElem?_map, q1]; rfl, by rw [q2, zcells_len]⟩)
  have hb : P.built tid (parts.map fun (p : Nat × Operand) => (p.1, a.eval p.2)).toList = some (((parts.map fun (p : Nat × Operand) => (p.1, a.eval p.2)).toList.foldl (fun l p => l.set p.1 p.2.cells.toList) ((fieldTys te.ty).map zcells)).flatten.toArray) := by
    unfold Program.built
    rw [hi.info, u1]
    simp only [hz1, p1]
    have : z.cells = ((fieldTys te.ty).map zcells).flatten.toArray := by rw [← zcells_struct u2, ← hz2]
    rw [this]; exact hfill
  have hrun : (execOp a.eval o).run P w = .ok (.value (.agg ((parts.map fun (p : Nat × Operand) => (p.1, a.eval p.2)).toList.foldl (fun l p => l.set p.1 p.2.cells.toList) ((fieldTys te.ty).map zcells)).flatten.toArray)) w := by
    unfold execOp
    simp only [ho, Sem.run_bind]
    rw [show (parts.map fun x => match x with | (i, x) => (i, a.eval x)) = parts.map fun (p : Nat × Operand) => (p.1, a.eval p.2) from rfl, run_build w tid _ _ hb]
    rfl
  refine wp_value hrun hd hI h (.ofCells ?_ ?_) hk
  · rw [Array.toList_map]; exact g1.agg
  · cases l <;> rfl
theorem step_buildArr (hE : EnvOk P E) (hd : a.defers = []) (hI : ∀ b, I0 b → Im b) (h : Inv G st a.tmps w Im R []) {tid : TypeId} {parts : Array (Nat × Operand)} (ho : o.op = .build tid parts) {te : TE} (ht : E.get tid = some te) {e0 : TypeId} (hdd : te.d = .arr e0) (hz : te.z = true)
    (hk : (buildL st parts.toList (fieldTys te.ty) ((fieldTys te.ty).map zsv)).bind (fun l => K (st.set o.dst (aggOf l))) = some r0) : o.wp P a w (Post G I0 K r0) Q := by
  obtain ⟨l, hl, hk⟩ := Option.bind_eq_some_iff.1 hk
  obtain ⟨⟨it, hi⟩, hu, _⟩ := hE tid te ht
  obtain ⟨z, hz1, hz2⟩ := hi.zero hz
  unfold UndOk at hu
  rw [hdd] at hu
  obtain ⟨n, u1, u2, u3, fe, u4, u5, u6⟩ := hu
  obtain ⟨⟨ie, hie⟩, _⟩ := hE _ fe u4
  obtain ⟨g1, g2⟩ := buildL_some h hl (SVL.zero (w := w) (Im := Im) (R := R) (fieldTys te.ty))
  have hfill := fill_parts (pl := fun i => some (i * ie.size, ie.size)) ((parts.map fun (p : Nat × Operand) => (p.1, a.eval p.2)).toList) ((fieldTys te.ty).map zcells) (fun j c hc => by
      rw [List.getElem?_map] at hc
      obtain ⟨t, ht, rfl⟩ := Option.map_eq_some_iff.1 hc
      have hlt := (List.getElem?_eq_some_iff.1 ht).1
      obtain ⟨q1, q2⟩ := u6 j (by omega)
      rw [ht] at q1; cases q1
      rw [← foff_len hlt, q2, zcells_len, hie.size]) (fun p hp => by
      rw [Array.toList_map] at hp
      obtain ⟨t, q1, q2⟩ := g2 p hp
      exact ⟨zcells t, by rw [List.getElem?_map, q1]; rfl, by rw [q2, zcells_len]⟩)
  have hb : P.built tid (parts.map fun (p : Nat × Operand) => (p.1, a.eval p.2)).toList = some (((parts.map fun (p : Nat × Operand) => (p.1, a.eval p.2)).toList.foldl (fun l p => l.set p.1 p.2.cells.toList) ((fieldTys te.ty).map zcells)).flatten.toArray) := by
    unfold Program.built
    rw [hi.info, u1]
    simp only [hz1, hie.info]
    have : z.cells = ((fieldTys te.ty).map zcells).flatten.toArray := by rw [← zcells_struct u2, ← hz2]
    rw [this]; exact hfill
  have hrun : (execOp a.eval o).run P w = .ok (.value (.agg ((parts.map fun (p : Nat × Operand) => (p.1, a.eval p.2)).toList.foldl (fun l p => l.set p.1 p.2.cells.toList) ((fieldTys te.ty).map zcells)).flatten.toArray)) w := by
    unfold execOp
    simp only [ho, Sem.run_bind]
    rw [show (parts.map fun x => match x with | (i, x) => (i, a.eval x)) = parts.map fun (p : Nat × Operand) => (p.1, a.eval p.2) from rfl, run_build w tid _ _ hb]
    rfl
  refine wp_value hrun hd hI h (.ofCells ?_ ?_) hk
  · rw [Array.toList_map]; exact g1.agg
  · cases l <;> rfl
end
end Go.Proofs.YtgdaiifhedpffaaDoor.V
set_option linter.unusedVariables false
set_option linter.unusedSimpArgs false
namespace Go.Proofs.YtgdaiifhedpffaaDoor.V
open Go
def CV (w : World) (Im : Nat → Prop) (R : Real) (s : SV) (v : Value) : Prop :=
  s ≠ .undef → s ≠ .tnil → (∀ a b, s ≠ .tcons a b) → ∃ cs, (if isAgg s = true then v = .agg cs.toArray else cs = [v]) ∧ SVX w Im R s false cs
theorem forget_ne {p : Bool → Nat → Path → Bool} {s : SV} : (forget p s ≠ .undef → s ≠ .undef) ∧ (forget p s ≠ .tnil → s ≠ .tnil) ∧ ((∀ a b, forget p s ≠ .tcons a b) → ∀ a b, s ≠ .tcons a b) := by
  refine ⟨?_, ?_, ?_⟩
  · rintro h rfl; exact h rfl
  · rintro h rfl; exact h rfl
  · rintro h a b rfl; exact h _ _ rfl
section
variable {P : Program} {G : Gl} {I0 : Nat → Prop} {st st1 : St} {a : Act} {vs : Array Value} {w w' : World} {Im Im' : Nat → Prop} {R R' : Real} {hand hand' : Frag} {o : Oper} {T : Type} {K : St → Option T} {r0 : T} {Q : Exit → Act → World → Prop} {E : Env}
theorem CV.of {s : SV} {v : Value} (h : SVV w Im R s v) : CV w Im R s v := fun h1 h2 h3 => h.cells h1 h2 h3
theorem CV.next {p : Bool → Nat → Path → Bool} {s : SV} {v : Value} (h : CV w Im R s v) (hx : ∀ {s : SV} {c : List Value}, SVX w Im R s false c → SVX w' Im' R' (forget p s) false c) : CV w' Im' R' (forget p s) v := fun h1 h2 h3 => by
  obtain ⟨cs, e, hs⟩ := h (forget_ne.1 h1) (forget_ne.2.1 h2) (forget_ne.2.2 h3)
  exact ⟨cs, by rw [isAgg_forget]; exact e, hx hs⟩
theorem CV.shallow {s : SV} {v : Value} (h : CV w Im R s v) : CV w Im R (shallow s) v := h.next fun hx => hx.forget_more _
theorem toC_cv {s : SV} {v : Value} {t : Ty} {wm : Md} {K : den t → Md → St → Option T} (hk : toC st s t wm K = some r0) (h : Inv G st vs w Im R hand) (hs : CV w Im R s v) :
    ∃ cs x m st' Im' R' h1, (if isAgg s = true then v = .agg cs.toArray else cs = [v]) ∧ v.cells.toList = cs ∧ K x m st' = some r0 ∧ Inv G st' vs w Im' R' (hand ++ h1) ∧ Rep w Im' t m x cs h1 ∧ Grow w w Im Im' ∧
      (∀ {s : SV} {c : List Value}, SVX w Im R s false c → SVX w Im' R' (V.shallow s) false c) ∧ (∀ j, j ∉ roots s → R' j = R j) := by
  obtain ⟨n1, n2, n3⟩ := toC_ne hk
  obtain ⟨cs, e, hx⟩ := hs n1 n2 n3
  obtain ⟨x, m, st', Im', R', h1, k1, k2, k3, k4, k5, k6⟩ := toC_some hk h hx
  exact ⟨cs, x, m, st', Im', R', h1, e, cells_of e k3.one, k1, k2, k3, k4, k5, k6⟩
theorem elems_some {t : Ty} {m : Md} : ∀ {l : List (SV × Value)} {st : St} {Im : Nat → Prop} {R : Real} {hand : Frag} {K : List (den t) → St → Option T}, elems t m (l.map (·.1)) st K = some r0 → Inv G st vs w Im R hand → (∀ p ∈ l, CV w Im R (V.shallow p.1) p.2) →
    ∃ xs st' Im' R' h1, K xs st' = some r0 ∧ Inv G st' vs w Im' R' (hand ++ h1) ∧ RepL (fun x cs h => Rep w Im' t m x cs h) xs (l.flatMap fun p => p.2.cells.toList) h1 ∧ Grow w w Im Im' ∧ xs.length = l.length ∧ (∀ p ∈ l, p.2.cells.size = sz t)
  | [], st, Im, R, hand, K, hk, h, _ => ⟨[], st, Im, R, [], hk, by rw [List.append_nil]; exact h, rfl, Grow.refl _ _, rfl, fun p hp => by simp at hp⟩
  | (s, v) :: l, st, Im, R, hand, K, hk, h, hs => by
    simp only [List.map_cons, elems] at hk
    obtain ⟨cs, x, m', st1, Im1, R1, h1, e1, e2, hk, hi, hrep, g1, hsv, _⟩ := toC_cv hk h (hs (s, v) (List.mem_cons_self ..))
    split at hk
    · rename_i hm
      have hrep' : Rep w Im1 t m x cs h1 := by
        exact hrep.same hm
      obtain ⟨xs, st2, Im2, R2, h2, k1, k2, k3, g2, k4, k5⟩ := elems_some (l := l) hk hi (fun p hp => by
        have := (hs p (List.mem_cons_of_mem _ hp)).next hsv
        rw [show V.forget (fun _ _ q => !decide (lev q = 0)) (V.shallow p.1) = V.shallow p.1 from shallow_shallow p.1] at this
        exact this)
      refine ⟨x :: xs, st2, Im2, R2, h1 ++ h2, k1, by rw [← List.append_assoc]; exact k2, ⟨cs, _, h1, h2, ?_, rfl, hrep'.grow g2, k3⟩, g1.trans g2, by simpa using k4, fun p hp => ?_⟩
      · simp only [List.flatMap_cons]; rw [e2]
      · rcases List.mem_cons.1 hp with e | hp
        · subst e; rw [← hrep.len, ← e2]; simp
        · exact k5 p hp
    · cases hk
theorem parts_of {n : Nat} {parts : List (Nat × Operand)} (h : elemsOk n parts = true) (f : Operand → Value) : (parts.map fun p => (p.1, f p.2)) = ((parts.map fun p => f p.2).zipIdx 0).map (fun x => (x.2, x.1)) ∧ parts.length = n := by
  have h : parts.map (·.1) = List.range n := by simpa [elemsOk] using h
  have hl : parts.length = n := by have := congrArg List.length h; simpa using this
  refine ⟨?_, hl⟩
  apply List.ext_getElem?
  intro i
  simp only [List.getElem?_map, List.getElem?_zipIdx, Nat.zero_add]
  by_cases hi : i < parts.length
  · have h1 : parts[i].1 = i := by
      have := congrArg (fun l => l[i]?) h
      simp only [List.getElem?_map, List.getElem?_eq_getElem hi, Option.map_some] at this
      rw [List.getElem?_range (by omega)] at this
      simpa using this
    simp [List.getElem?_eq_getElem hi, h1]
  · simp [List.getElem?_eq_none (Nat.le_of_not_lt hi)]
theorem build_core (hE : EnvOk P E) (hd : a.defers = []) (hI : ∀ b, I0 b → Im b) (h : Inv G st a.tmps w Im R []) {tid : TypeId} {n : Nat} {parts : Array (Nat × Operand)} (ho : o.op = .buildSlice tid n parts) {te ee : TE} (ht : E.get tid = some te) {e : TypeId} (hdd : te.d = .slc e)
    (hee : E.get e = some ee) (hz : ee.z = true) (hn : n * sz ee.ty ≤ 16777216) (hsz : 0 < sz ee.ty) (hp : elemsOk n parts.toList = true) {m : Md} {K2 : List (den ee.ty) → St → Option T}
    (hk : elems ee.ty m (parts.toList.map fun p => st.ev p.2) st K2 = some r0) :
    ∃ xs st' Im' R' w' h' v, K2 xs st' = some r0 ∧ (execOp a.eval o).run P w = .ok (.value v) w' ∧ Inv G st' a.tmps w' Im' R' ([] ++ h') ∧ Rep w' Im' (.slc ee.ty) (.own m) xs [v] h' ∧ Grow w w' Im Im' := by
  have hu := (hE tid te ht).2.1
  unfold UndOk at hu; rw [hdd] at hu
  obtain ⟨hu, _⟩ := hu
  obtain ⟨⟨i, hi⟩, _⟩ := hE e ee hee
  obtain ⟨z, hz1, hz2⟩ := hi.zero hz
  obtain ⟨q1, q2⟩ := parts_of hp a.eval
  have e0 : (parts.toList.map fun p => st.ev p.2) = (parts.toList.map fun p => (st.ev p.2, a.eval p.2)).map (·.1) := by simp
  rw [e0] at hk
  obtain ⟨xs, st', Im', R', h1, k1, k2, k3, g, k4, k5⟩ := elems_some hk h (fun p hp => by
    obtain ⟨q, _, rfl⟩ := List.mem_map.1 hp
    exact (CV.of (h.ev q.2)).shallow)
  have hvs : (parts.toList.map fun p => (st.ev p.2, a.eval p.2)).flatMap (fun p => p.2.cells.toList) = (parts.toList.map fun p => a.eval p.2).flatMap fun v => v.cells.toList := by
    simp [List.flatMap_map]
  rw [hvs] at k3
  have hlen : xs.length = n := by rw [k4]; simpa using q2
  have hcells : ∀ v ∈ (parts.toList.map fun p => a.eval p.2), v.cells.size = sz ee.ty := fun v hv => by
    obtain ⟨p, hp, rfl⟩ := List.mem_map.1 hv
    exact k5 _ (List.mem_map.2 ⟨p, hp, rfl⟩)
  have hfill : ∀ cells : Array Value, cells.size = n * sz ee.ty → Instr.fill (fun i => some (i * sz ee.ty, sz ee.ty)) cells (parts.map fun (p : Nat × Operand) => (p.1, a.eval p.2)).toList = some ((parts.toList.map fun p => a.eval p.2).flatMap fun v => v.cells.toList).toArray := by
    intro cells hc
    rw [Array.toList_map, q1]
    exact Great.fill_whole hsz _ cells hcells (by rw [hc]; simp [q2])
  have hrun : (execOp a.eval o).run P w = .ok (.value (.slice (some ⟨w.heap.size, 0, none⟩) n n)) (w.alloc (.cells ((parts.toList.map fun p => a.eval p.2).flatMap fun v => v.cells.toList).toArray e)) := by
    unfold execOp
    simp only [ho, Sem.run_bind]
    rw [show (parts.map fun x => match x with | (i, x) => (i, a.eval x)) = parts.map fun (p : Nat × Operand) => (p.1, a.eval p.2) from rfl]
    by_cases h0 : n = 0
    · subst h0
      have hpe : parts = #[] := by
        have : parts.toList = [] := List.length_eq_zero_iff.1 q2
        exact Array.toList_eq_nil_iff.1 this
      subst hpe
      simp [Instr.buildSlice, run_underlying hu, sizeOf, typeInfo, hi.info, Instr.fill, newRow]
      congr 2
      apply Array.ext'
      simp
    · have hpos : ¬ n * i.size = 0 := by
        rw [hi.size]
        have := Nat.mul_pos (Nat.pos_of_ne_zero h0) hsz
        omega
      have hf := hfill ((Array.range (n * sz ee.ty)).map (z.cells[· % z.cells.size]!)) (by simp)
      rw [run_buildSlice w tid e n _ _ i z hu hi.info hz1 (by rw [hi.size]; omega) hpos (by rw [hi.size]; exact hf)]
      rfl
  have hi2 := (k2.alloc ((parts.toList.map fun p => a.eval p.2).flatMap fun v => v.cells.toList).toArray e).perm (hand' := [] ++ ((w.heap.size, .cells ((parts.toList.map fun p => a.eval p.2).flatMap fun v => v.cells.toList).toArray e) :: h1)) (by simp)
  have gr : Grow w (w.alloc (.cells ((parts.toList.map fun p => a.eval p.2).flatMap fun v => v.cells.toList).toArray e)) Im' Im' := Grow.alloc (fun b hb => k2.sep.imlt b hb) _
  have hr : Rep (w.alloc (.cells ((parts.toList.map fun p => a.eval p.2).flatMap fun v => v.cells.toList).toArray e)) Im' (.slc ee.ty) (.own m) xs [.slice (some ⟨w.heap.size, 0, none⟩) n n] ((w.heap.size, .cells ((parts.toList.map fun p => a.eval p.2).flatMap fun v => v.cells.toList).toArray e) :: h1) :=
    .inr ⟨w.heap.size, 0, _, e, n, h1, by rw [hlen], rfl, by rw [hlen]; exact Nat.le_refl _, by simp only [maxLen]; have := Nat.le_mul_of_pos_right n hsz; omega, by
      have := k3.len (n := sz ee.ty) (fun _ _ _ r => r.len)
      rw [hlen] at this
      rw [Nat.zero_add]; simpa using this, by
      rw [List.drop_zero]
      exact k3.mono fun _ _ _ r => Rep.grow gr r⟩
  exact ⟨xs, st', Im', R', _, _, _, k1, hrun, hi2, hr, g.trans gr⟩
theorem step_buildSlice (hE : EnvOk P E) (hd : a.defers = []) (hI : ∀ b, I0 b → Im b) (h : Inv G st a.tmps w Im R []) {tid : TypeId} {n : Nat} {parts : Array (Nat × Operand)} (ho : o.op = .buildSlice tid n parts) {te ee : TE} (ht : E.get tid = some te) {e : TypeId} (hdd : te.d = .slc e)
    (hee : E.get e = some ee) (hz : ee.z = true) (hn : n * sz ee.ty ≤ 16777216) (hsz : 0 < sz ee.ty) (hp : elemsOk n parts.toList = true) {d : Tmp} (hdst : o.dst = some d) {m : Md}
    (hk : elems ee.ty m (parts.toList.map fun p => st.ev p.2) st (fun xs st => K ((st.lay (d * 16) { mem := none, t := .slc ee.ty, m := .own m, x := xs }).set (some d) (.ref (d * 16) []))) = some r0) : o.wp P a w (Post G I0 K r0) Q := by
  obtain ⟨xs, st', Im', R', w', h', v, k1, k2, k3, k4, k5⟩ := build_core hE hd hI h ho ht hdd hee hz hn hsz hp hk
  have h2 := k3.lay (d * 16) (b := { mem := none, t := .slc ee.ty, m := .own m, x := xs }) (rb := ⟨0, [v], h'⟩) k4 rfl
  rw [← hdst] at k1
  exact wp_to k2 hd (fun b hb => k5.im b (hI b hb)) h2 (ref_ok rfl rfl R') k1
theorem step_buildCon (hE : EnvOk P E) (hd : a.defers = []) (hI : ∀ b, I0 b → Im b) (h : Inv G st a.tmps w Im R []) {tid : TypeId} {n : Nat} {parts : Array (Nat × Operand)} (ho : o.op = .buildSlice tid n parts) {te ee : TE} (ht : E.get tid = some te) {e : TypeId} (hdd : te.d = .slc e)
    (hee : E.get e = some ee) (hz : ee.z = true) (hn : n * sz ee.ty ≤ 16777216) (hsz : 0 < sz ee.ty) (hp : elemsOk n parts.toList = true) {d : Tmp} (hdst : o.dst = some d) {m : Md}
    (hk : elems ee.ty m (parts.toList.map fun p => st.ev p.2) st (fun xs st => if live ee.ty m = true then K (st.set (some d) (.con (.slc ee.ty) xs)) else none) = some r0) : o.wp P a w (Post G I0 K r0) Q := by
  obtain ⟨xs, st', Im', R', w', h', v, k1, k2, k3, k4, k5⟩ := build_core hE hd hI h ho ht hdd hee hz hn hsz hp hk
  split at k1
  · rename_i hl
    obtain ⟨hi2, g⟩ := k3.freeze
    have hf := Rep.freeze (w' := w') (t := .slc ee.ty) (m := .own m) hl g.im g.heap (fun p hp => ⟨.inr (keys_mem.2 ⟨p, hp, rfl⟩), k3.sep.heap 0 p (by rw [own_zero]; simpa using hp)⟩) k4
    rw [← hdst] at k1
    exact wp_to k2 hd (fun b hb => g.im b (k5.im b (hI b hb))) hi2 (.ofCell (s := .con (.slc ee.ty) xs) hf rfl) k1
  · cases k1
theorem go_some (hE : EnvOk P E) {t e : TypeId} {te : TE} (hu : P.underlying t = some (.slice e)) (hee : E.get e = some te) (hz : te.z = true) (hd : a.defers = []) {Im0 : Nat → Prop} (hI : ∀ b, I0 b → Im0 b) (g0 : Grow w w Im0 Im)
    {xs : List (den te.ty)} {free : Bool} {m : Md} {v1 v2 : Value} {s2 : SV} {h1 : Frag} (h : Inv G st a.tmps w Im R h1) (r1 : Rep w Im (.slc te.ty) (.own m) xs [v1] h1) (hfree : free = true → xs = [] ∧ h1 = [] ∧ ∃ A, v1 = .slice A 0 0)
    (hs : CV w Im R (V.shallow s2) v2) (hna : isAgg s2 = false) {d : Tmp} (hdst : o.dst = some d) {ty : TypeId} (hrun : ∀ v' w', (Builtin.append_ #[t, t] ty #[v1, v2]).run P w = .ok v' w' → (execOp a.eval o).run P w = .ok (.value v') w')
    (hk : appGo st d te s2 xs free m K = some r0) : o.wp P a w (Post G I0 K r0) Q := by
  obtain ⟨⟨i, hi⟩, _⟩ := hE e te hee
  have hna' : isAgg (V.shallow s2) = false := by rw [← hna]; exact isAgg_forget _ _
  -- what is appended
  have main : ∀ {ys : List (den te.ty)} {m' : Md} {st' : St} {Im' : Nat → Prop} {R' : Real} {h2 : Frag} {news : List Value}, Inv G st' a.tmps w Im' R' (h1 ++ h2) → Grow w w Im Im' → Src P (sz te.ty) t v2 ys.length news w →
      (flat te.ty = true → ∀ mm, RepL (fun x cs h => Rep w Im' te.ty mm x cs h) ys news h2) → RepL (fun x cs h => Rep w Im' te.ty m' x cs h) ys news h2 →
      (if free = true ∨ sameM te.ty m' m = true ∨ flat te.ty = true then
        (if (xs.length + ys.length) * te.bytes ≤ most ∧ 0 < te.bytes ∧ 0 < sz te.ty then
          K ((st'.lay (d * 16) { mem := none, t := .slc te.ty, m := .own (if free = true then m' else m), x := xs ++ ys }).set (some d) (.ref (d * 16) []))
        else none)
      else none) = some r0 → o.wp P a w (Post G I0 K r0) Q := by
    intro ys m' st' Im' R' h2 news hi' g src hfl hrep hk
    split at hk
    · rename_i hc
      split at hk
      · rename_i hb
        have rr1 : Rep w Im' (.slc te.ty) (.own (if free = true then m' else m)) xs [v1] h1 := by
          by_cases hf : free = true
          · rw [if_pos hf]
            obtain ⟨e1, e2, A, e3⟩ := hfree hf
            exact .inl ⟨e1, ⟨A, by rw [e3]⟩, e2⟩
          · rw [if_neg hf]; exact r1.grow g
        have rr2 : RepL (fun x cs h => Rep w Im' te.ty (if free = true then m' else m) x cs h) ys news h2 := by
          by_cases hf : free = true
          · rw [if_pos hf]; exact hrep
          · rw [if_neg hf]
            rcases hc with hc | hc | hc
            · exact absurd hc hf
            · exact hrep.mono fun _ _ _ r => r.same hc
            · exact hfl hc m
        obtain ⟨v', w', h', k1, k2, k3, g2⟩ := append_own (ty := ty) (e' := e) hu hi hz hi' rr1 src rr2 hb.1 hb.2.1
        have h3 := Inv.lay (hand := []) (hand' := h') k2 (d * 16) (b := { mem := none, t := .slc te.ty, m := .own (if free = true then m' else m), x := xs ++ ys }) (rb := ⟨0, [v'], h'⟩) k3 rfl
        rw [← hdst] at hk
        exact wp_to (hrun _ _ k1) hd (fun b hb => g.im b (g0.im b (hI b hb))) h3 (ref_ok rfl rfl R') hk
      · cases hk
    · cases hk
  unfold appGo newS at hk
  split at hk
  · rename_i hf
    have hne : V.shallow s2 ≠ .undef ∧ V.shallow s2 ≠ .tnil ∧ ∀ a b, V.shallow s2 ≠ .tcons a b := by
      refine ⟨?_, ?_, ?_⟩
      · intro h; rw [h] at hk; simp [look] at hk
      · intro h; rw [h] at hk; simp [look] at hk
      · intro a b h; rw [h] at hk; simp [look] at hk
    obtain ⟨cs, e1, hx⟩ := hs hne.1 hne.2.1 hne.2.2
    rw [if_neg (by simp [hna'])] at e1
    subst e1
    obtain ⟨ys, hk, hrep⟩ := look_some h hk hx
    obtain ⟨news, h2, src, r2, hsub⟩ := src_of hu hrep (fun p hp => by simp at hp) (.inl ⟨rfl, rfl⟩)
    have := flat_rows (w' := w) (Im' := Im) (m' := .ro) hf r2
    obtain ⟨e2, _⟩ := this
    subst e2
    exact main (h2 := []) (by rw [List.append_nil]; exact h) (Grow.refl _ _) src (fun _ mm => (flat_rows (w' := w) (Im' := Im) (m' := mm) hf r2).2) (flat_rows (w' := w) (Im' := Im) (m' := .ro) hf r2).2 hk
  · rename_i hf
    obtain ⟨cs, ys, my, st', Im', R', h2, e1, _, hk, hi', hrep, g, _, _⟩ := toC_cv hk h hs
    rw [if_neg (by simp [hna'])] at e1
    subst e1
    have hh : ∀ p ∈ h2, w.heap[p.1]? = some p.2 := fun p hp => hi'.sep.heap 0 p (List.mem_append_right _ hp)
    split at hk
    · obtain ⟨news, h3, src, r2, hsub⟩ := src_of hu hrep hh (.inl ⟨rfl, rfl⟩)
      exact main (hi'.less hsub) g src (fun h => absurd h hf) r2 hk
    · rename_i mo
      obtain ⟨news, h3, src, r2, hsub⟩ := src_of hu hrep hh (.inr rfl)
      exact main (hi'.less hsub) g src (fun h => absurd h hf) r2 hk
    · cases hk
theorem step_append (hE : EnvOk P E) (hd : a.defers = []) (hI : ∀ b, I0 b → Im b) (h : Inv G st a.tmps w Im R []) {c : Cx} {cl : Call} (ho : o.op = .call cl) (hc : cl.callee = .builtin .append) {x y : Operand} (harg : cl.args = #[x, y]) {t e : TypeId} (hty : cl.argTypes = #[t, t])
    (hu : P.underlying t = some (.slice e)) {te : TE} (hee : E.get e = some te) (hz : te.z = true) {d : Tmp} (hdst : o.dst = some d) (hk : appS c st d te (st.ev x) (st.ev y) K = some r0) : o.wp P a w (Post G I0 K r0) Q := by
  have hrun : ∀ v' w', (Builtin.append_ #[t, t] o.type #[a.eval x, a.eval y]).run P w = .ok v' w' → (execOp a.eval o).run P w = .ok (.value v') w' := by
    intro v' w' hr
    simp [execOp, ho, resolve, invoke, builtin, hc, harg, hty, hr, Result.andThen]
  have hx := h.ev x
  unfold appS at hk
  split at hk
  · cases hk
  · rename_i hag
    simp only [not_or, Bool.not_eq_true] at hag
    split at hk
    · rename_i he
      rw [he] at hx
      have hv := hx.raw
      exact go_some hE hu hee hz hd hI (Grow.refl _ _) h (.inl ⟨rfl, ⟨none, by rw [hv]⟩, rfl⟩) (fun _ => ⟨rfl, rfl, none, hv⟩) (CV.of (h.ev y)).shallow hag.2 hdst hrun hk
    · rename_i he
      rw [he] at hx
      obtain ⟨A, hv⟩ := hx.cell (by simp) (by simp) (by simp) rfl
      simp at hv
      exact go_some hE hu hee hz hd hI (Grow.refl _ _) h (.inl ⟨rfl, ⟨A, by rw [hv]⟩, rfl⟩) (fun _ => ⟨rfl, rfl, A, hv⟩) (CV.of (h.ev y)).shallow hag.2 hdst hrun hk
    · obtain ⟨cs, xs, m, st', Im', R', h1, e1, _, hk, hi, hrep, g, hsv, _⟩ := toC_cv hk h (CV.of hx)
      rw [if_neg (by simp [hag.1])] at e1
      subst e1
      split at hk
      · exact go_some hE hu hee hz hd hI g hi hrep (fun h => by cases h) ((CV.of (h.ev y)).next hsv) hag.2 hdst hrun hk
      · cases hk
end
end Go.Proofs.YtgdaiifhedpffaaDoor.V
