/- Boxes that are laid, taken, and given up. -/
import Derived.Test.YtlgbhaigpecdoaaVWhole
set_option linter.unusedVariables false
set_option linter.unusedSimpArgs false
namespace Go.Proofs.Ytlgbhaigpecdoaa.V
open Go

theorem bget_bset (i : Nat) (b : Bx) : ∀ (l : List (Nat × Bx)) (j : Nat), bget (bset i b l) j = if j = i then some b else bget l j
  | [], j => by simp [bset, bget]
  | (k, c) :: l, j => by
    simp only [bset]
    split
    · rename_i h
      simp only [bget]
    · split
      · rename_i h1 h2; subst h2
        simp only [bget]
        split <;> rfl
      · rename_i h1 h2
        simp only [bget, bget_bset i b l j]
        by_cases hj : j = k
        · subst hj; simp [Ne.symm h2]
        · simp [hj]
theorem bget_bdel (i : Nat) : ∀ (l : List (Nat × Bx)), ∀ j, bget (bdel i l) j = if j = i then none else bget l j
  | [], j => by simp [bdel, bget]
  | (k, c) :: l, j => by
    simp only [bdel]
    split
    · rename_i h; subst h
      rw [bget_bdel i l j]
      by_cases hj : j = i
      · simp [hj]
      · simp [bget, hj]
    · rename_i h
      simp only [bget, bget_bdel i l j]
      by_cases hj : j = k
      · subst hj; simp [Ne.symm h]
      · simp [hj]

section
variable {G : Gl} {O O' : Nat → Frag} {w w' : World} {Im Im' : Nat → Prop}
theorem Sep.redis (h : Sep G O w Im) (nod : ∀ i, (keys (O' i)).Nodup) (sep : ∀ i j, i ≠ j → ∀ k ∈ keys (O' i), k ∉ keys (O' j)) (sub : ∀ i, ∀ p ∈ O' i, ∃ j, p ∈ O j) : Sep G O' w Im :=
  ⟨nod, sep, fun i p hp => (sub i p hp).elim fun j hj => h.heap j p hj,
    fun i k hk => by obtain ⟨p, hp, e⟩ := keys_mem.1 hk; obtain ⟨j, hj⟩ := sub i p hp; exact h.im j k (keys_mem.2 ⟨p, hj, e⟩),
    fun i k hk => by obtain ⟨p, hp, e⟩ := keys_mem.1 hk; obtain ⟨j, hj⟩ := sub i p hp; exact h.fresh j k (keys_mem.2 ⟨p, hj, e⟩), h.imlt, h.imok⟩
theorem Sep.lt (h : Sep G O w Im) {i k : Nat} (hk : k ∈ keys (O i)) : k < w.heap.size := by
  obtain ⟨p, hp, rfl⟩ := keys_mem.1 hk
  exact (Array.getElem?_eq_some_iff.1 (h.heap i p hp)).1
/-- A new block is in hand. -/
theorem Sep.alloc (h : Sep G O w Im) (hk : Keep G w) (c : Array Value) (e : TypeId) (h0 : O' 0 = O 0 ++ [(w.heap.size, (c, e))]) (hi : ∀ i, O' (i + 1) = O (i + 1)) : Sep G O' (w.alloc (.cells c e)) Im := by
  have hne : ∀ i, w.heap.size ∉ keys (O i) := fun i hm => Nat.lt_irrefl _ (h.lt hm)
  refine ⟨fun i => ?_, fun i j hij k hk1 hk2 => ?_, fun i p hp => ?_, fun i k hk1 => ?_, fun i k hk1 => ?_, fun k hk1 => ?_, h.imok⟩
  · cases i with
    | zero =>
      rw [h0, keys_append]
      refine List.nodup_append.2 ⟨h.nod 0, by simp [keys], ?_⟩
      intro a ha b hb; simp [keys] at hb; subst hb
      intro e; subst e; exact hne 0 ha
    | succ i => rw [hi]; exact h.nod _
  · cases i with
    | zero =>
      cases j with
      | zero => exact hij rfl
      | succ j =>
        rw [hi] at hk2; rw [h0, keys_append] at hk1
        rcases List.mem_append.1 hk1 with h1 | h1
        · exact h.sep 0 (j + 1) (by simp) k h1 hk2
        · simp [keys] at h1; subst h1; exact hne _ hk2
    | succ i =>
      rw [hi] at hk1
      cases j with
      | zero =>
        rw [h0, keys_append] at hk2
        rcases List.mem_append.1 hk2 with h1 | h1
        · exact h.sep (i + 1) 0 (by simp) k hk1 h1
        · simp [keys] at h1; subst h1; exact hne _ hk1
      | succ j => rw [hi] at hk2; exact h.sep _ _ hij k hk1 hk2
  · have old : ∀ i, ∀ p ∈ O i, (w.alloc (.cells c e)).heap[p.1]? = some (.cells p.2.1 p.2.2 (0, 0)) := fun i p hp => by
      rw [Go.heap_alloc_old w _ (h.lt (keys_mem.2 ⟨p, hp, rfl⟩))]; exact h.heap i p hp
    cases i with
    | zero =>
      rw [h0] at hp
      rcases List.mem_append.1 hp with h1 | h1
      · exact old 0 p h1
      · simp at h1; subst h1; exact Go.heap_alloc_new w _
    | succ i => rw [hi] at hp; exact old _ p hp
  · cases i with
    | zero =>
      rw [h0, keys_append] at hk1
      rcases List.mem_append.1 hk1 with h1 | h1
      · exact h.im 0 k h1
      · simp [keys] at h1; subst h1; intro hh; exact Nat.lt_irrefl _ (h.imlt _ hh)
    | succ i => rw [hi] at hk1; exact h.im _ k hk1
  · cases i with
    | zero =>
      rw [h0, keys_append] at hk1
      rcases List.mem_append.1 hk1 with h1 | h1
      · exact h.fresh 0 k h1
      · simp [keys] at h1; subst h1; exact .inl hk.size
    | succ i => rw [hi] at hk1; exact h.fresh _ k hk1
  · have := h.imlt k hk1
    show k < (w.heap.push _).size
    simp; omega
theorem Keep.alloc (h : Keep G w) (o : Obj) : Keep G (w.alloc o) :=
  ⟨h.os, h.tape, h.output, by show _ ≤ (w.heap.push o).size; simp; have := h.size; omega, fun b hb hk => by rw [Go.heap_alloc_old w o (by have := h.size; omega)]; exact h.block b hb hk⟩
theorem Keep.drew (h : Keep G w) : Keep G w.drew := ⟨h.os, h.tape, h.output, h.size, h.block⟩
theorem Grow.alloc (h : ∀ b, Im b → b < w.heap.size) (o : Obj) : Grow w (w.alloc o) Im Im := ⟨fun _ h => h, fun b hb => Go.heap_alloc_old w o (h b hb)⟩
end

section
variable {G : Gl} {st : St} {vs : Array Value} {w w' : World} {Im Im' : Nat → Prop} {R R' : Real} {hand hand' : Frag}
theorem RefOK.same {r : Nat} {q : Path} {v : Value} (hr : R' r = R r) (hrep : ∀ b rb, R r = some (b, rb) → Rep w Im b.t b.m b.x rb.cs rb.h) (hh : ∀ b rb, R r = some (b, rb) → HeapOK w rb.h)
    (hk : ∀ b rb, R r = some (b, rb) → ∀ k ∈ keys rb.h, w'.heap[k]? = w.heap[k]?) (h : RefOK w R r q v) : RefOK w' R' r q v := by
  intro b rb hb
  rw [hr] at hb
  obtain ⟨hv, ht, ad, hn⟩ := h b rb hb
  exact ⟨hv, ht, ad, by rw [nav_frame q hv (hrep b rb hb) (hh b rb hb) (hk b rb hb)]; exact hn⟩
theorem SubOK.same {r : Nat} {q : Path} {lo n : Nat} {v : Value} (hr : R' r = R r) (hrep : ∀ b rb, R r = some (b, rb) → Rep w Im b.t b.m b.x rb.cs rb.h) (hh : ∀ b rb, R r = some (b, rb) → HeapOK w rb.h)
    (hk : ∀ b rb, R r = some (b, rb) → ∀ k ∈ keys rb.h, w'.heap[k]? = w.heap[k]?) (h : SubOK w R r q lo n v) : SubOK w' R' r q lo n v := by
  obtain ⟨u, h1, h2⟩ := h
  exact ⟨u, h1.same hr hrep hh hk, fun b rb hb => h2 b rb (by rw [← hr]; exact hb)⟩
theorem PtrOK.same {r : Nat} {q : Path} {v : Value} (hr : R' r = R r) (hrep : ∀ b rb, R r = some (b, rb) → Rep w Im b.t b.m b.x rb.cs rb.h) (hh : ∀ b rb, R r = some (b, rb) → HeapOK w rb.h)
    (hk : ∀ b rb, R r = some (b, rb) → ∀ k ∈ keys rb.h, w'.heap[k]? = w.heap[k]?) (h : PtrOK w R r q v) : PtrOK w' R' r q v := by
  intro b rb hb
  rw [hr] at hb
  obtain ⟨hv, cs, b', o, hn, e⟩ := h b rb hb
  exact ⟨hv, cs, b', o, by rw [nav_frame q hv (hrep b rb hb) (hh b rb hb) (hk b rb hb)]; exact hn, e⟩
/-- What slots hold that leads to boxes that stay as they are. -/
theorem Inv.sv (h : Inv G st vs w Im R hand) (g : Grow w w' Im Im') {p : Bool → Nat → Path → Bool}
    (hs : ∀ r, (R' r = R r ∧ ∀ b rb, R r = some (b, rb) → ∀ k ∈ keys rb.h, w'.heap[k]? = w.heap[k]?) ∨
      ((∀ q v, p false r q = false → RefOK w R r q v → RefOK w' R' r q v) ∧ (∀ q lo n v, p false r q = false → SubOK w R r q lo n v → SubOK w' R' r q lo n v) ∧ (∀ q v, p true r q = false → PtrOK w R r q v → PtrOK w' R' r q v))) :
    (∀ {s : SV} {b : Bool} {cs : List Value}, SVX w Im R s b cs → SVX w' Im' R' (forget p s) b cs) ∧ (∀ {s : SV} {v : Value}, SVV w Im R s v → SVV w' Im' R' (forget p s) v) := by
  have h1 : ∀ r q v, p false r q = false → RefOK w R r q v → RefOK w' R' r q v := fun r q v hp hh => by
    rcases hs r with ⟨e, k⟩ | k
    · exact hh.same e (h.rep r) (fun b rb hb p hp => h.heapOK hb p (fragOf_sub p hp)) k
    · exact k.1 q v hp hh
  have h2 : ∀ r q lo n v, p false r q = false → SubOK w R r q lo n v → SubOK w' R' r q lo n v := fun r q lo n v hp hh => by
    rcases hs r with ⟨e, k⟩ | k
    · exact hh.same e (h.rep r) (fun b rb hb p hp => h.heapOK hb p (fragOf_sub p hp)) k
    · exact k.2.1 q lo n v hp hh
  have h3 : ∀ r q v, p true r q = false → PtrOK w R r q v → PtrOK w' R' r q v := fun r q v hp hh => by
    rcases hs r with ⟨e, k⟩ | k
    · exact hh.same e (h.rep r) (fun b rb hb p hp => h.heapOK hb p (fragOf_sub p hp)) k
    · exact k.2.2 q v hp hh
  exact ⟨fun hx => hx.forget g.im g.heap h1 h2 h3, fun hx => hx.forget g.im g.heap h1 h2 h3⟩
theorem own_zero : own R hand 0 = hand := rfl
theorem own_succ {i : Nat} : own R hand (i + 1) = match R i with | some p => fragOf p.1 p.2 | none => [] := rfl
theorem own_at {i : Nat} {b : Bx} {rb : RB} (h : R i = some (b, rb)) : own R hand (i + 1) = fragOf b rb := by simp [own, h]
/-- The world turns, no block that is owned or looked at with it. -/
theorem Inv.world (h : Inv G st vs w Im R hand) (hw : ∀ k, k < w.heap.size → w'.heap[k]? = w.heap[k]?) (hsz : w.heap.size ≤ w'.heap.size) (hk : Keep G w') : Inv G st vs w' Im R hand := by
  have g : Grow w w' Im Im := ⟨fun _ h => h, fun b hb => hw b (h.sep.imlt b hb)⟩
  have hs := h.sv g (R' := R) (p := fun _ _ _ => false) (fun r => .inl ⟨rfl, fun b rb hb k hk' => hw k (by
    have : k ∈ keys (own R hand (r + 1)) := by rw [own_at hb]; obtain ⟨p, hp, e⟩ := keys_mem.1 hk'; exact keys_mem.2 ⟨p, fragOf_sub p hp, e⟩
    exact h.sep.lt this)⟩)
  refine ⟨h.box, fun i b r hb => (h.rep i b r hb).grow g, ?_, fun n => ?_, h.len, hk⟩
  · exact ⟨h.sep.nod, h.sep.sep, fun i p hp => by rw [hw _ (h.sep.lt (keys_mem.2 ⟨p, hp, rfl⟩))]; exact h.sep.heap i p hp, h.sep.im, h.sep.fresh, fun k hk => Nat.lt_of_lt_of_le (h.sep.imlt k hk) hsz, h.sep.imok⟩
  · have := hs.2 (h.slots n); rwa [forget_none] at this
theorem Inv.drew (h : Inv G st vs w Im R hand) : Inv G st vs w.drew Im R hand := h.world (fun _ _ => rfl) (Nat.le_refl _) h.keep.drew
/-- A new block. -/
theorem Inv.alloc (h : Inv G st vs w Im R hand) (c : Array Value) (e : TypeId) : Inv G st vs (w.alloc (.cells c e)) Im R (hand ++ [(w.heap.size, (c, e))]) := by
  have h1 := h.world (w' := w.alloc (.cells c e)) (fun k hk => Go.heap_alloc_old w _ hk) (by show _ ≤ (w.heap.push _).size; simp) (h.keep.alloc _)
  refine ⟨h.box, h1.rep, ?_, h1.slots, h.len, h1.keep⟩
  exact h.sep.alloc h.keep c e rfl (fun i => rfl)
theorem Inv.drop (h : Inv G st vs w Im R (hand ++ hand')) : Inv G st vs w Im R hand := by
  refine ⟨h.box, h.rep, h.sep.redis (fun i => ?_) (fun i j hij k h1 h2 => ?_) (fun i p hp => ?_), h.slots, h.len, h.keep⟩
  · cases i with
    | zero => have := h.sep.nod 0; rw [own_zero, keys_append] at this; exact (List.nodup_append.1 this).1
    | succ i => exact h.sep.nod (i + 1)
  · have m : ∀ i, k ∈ keys (own R hand i) → k ∈ keys (own R (hand ++ hand') i) := fun i hk => by
      cases i with
      | zero => rw [own_zero, keys_append]; exact List.mem_append_left _ hk
      | succ i => exact hk
    exact h.sep.sep i j hij k (m i h1) (m j h2)
  · cases i with
    | zero => exact ⟨0, List.mem_append_left _ hp⟩
    | succ i => exact ⟨i + 1, hp⟩
/-- What is in hand is given up. -/
theorem Inv.freeze (h : Inv G st vs w Im R (hand ++ hand')) : Inv G st vs w (fun k => Im k ∨ k ∈ keys hand') R hand ∧ Grow w w Im (fun k => Im k ∨ k ∈ keys hand') := by
  have g : Grow w w Im (fun k => Im k ∨ k ∈ keys hand') := ⟨fun _ h => .inl h, fun _ _ => rfl⟩
  have hd := h.drop
  have hs := h.sv g (R' := R) (p := fun _ _ _ => false) (fun r => .inl ⟨rfl, fun _ _ _ _ _ => rfl⟩)
  refine ⟨⟨h.box, fun i b r hb => (h.rep i b r hb).grow g, ⟨hd.sep.nod, hd.sep.sep, hd.sep.heap, fun i k hk => ?_, hd.sep.fresh, fun k hk => ?_, fun k hk => hk.elim (h.sep.imok k) (fun hk => .inr (h.sep.fresh 0 k (by rw [own_zero, keys_append]; exact List.mem_append_right _ hk)))⟩, fun n => ?_, h.len, h.keep⟩, g⟩
  · rintro (h1 | h1)
    · exact hd.sep.im i k hk h1
    · cases i with
      | zero =>
        have := h.sep.nod 0
        rw [own_zero, keys_append] at this
        exact (List.nodup_append.1 this).2.2 k hk k h1 rfl
      | succ i =>
        exact h.sep.sep (i + 1) 0 (by simp) k hk (by rw [own_zero, keys_append]; exact List.mem_append_right _ h1)
  · rcases hk with h1 | h1
    · exact hd.sep.imlt k h1
    · exact h.sep.lt (i := 0) (by rw [own_zero, keys_append]; exact List.mem_append_right _ h1)
  · have := hs.2 (h.slots n); rwa [forget_none] at this
/-- A box is laid: it holds what was in hand. -/
theorem Inv.lay (h : Inv G st vs w Im R (hand ++ hand')) (i : Nat) {b : Bx} {rb : RB} (hr : Rep w Im b.t b.m b.x rb.cs rb.h) (hf : fragOf b rb = hand') :
    Inv G (st.lay i b) vs w Im (fun j => if j = i then some (b, rb) else R j) hand := by
  have hs := h.sv (Grow.refl w Im) (R' := fun j => if j = i then some (b, rb) else R j) (p := fun _ s _ => decide (s = i)) (fun r => by
    by_cases e : r = i
    · subst e; exact .inr ⟨fun q v hp => by simp at hp, fun q lo n v hp => by simp at hp, fun q v hp => by simp at hp⟩
    · exact .inl ⟨by simp [e], fun _ _ _ _ _ => rfl⟩)
  refine ⟨fun j => ?_, fun j b' r' hb => ?_, h.sep.redis (fun j => ?_) (fun j l hjl k h1 h2 => ?_) (fun j p hp => ?_), fun n => ?_, ?_, h.keep⟩
  · show bget (bset i b st.boxes) j = _
    rw [bget_bset]
    split
    · simp
    · exact h.box j
  · have hb : (if j = i then some (b, rb) else R j) = some (b', r') := hb
    split at hb
    · cases hb; exact hr
    · exact h.rep j b' r' hb
  · cases j with
    | zero => have := h.sep.nod 0; rw [own_zero, keys_append] at this; exact (List.nodup_append.1 this).1
    | succ j =>
      simp only [own]
      by_cases e : j = i
      · rw [if_pos e]; show (keys (fragOf b rb)).Nodup; have := h.sep.nod 0; rw [own_zero, keys_append] at this; rw [hf]; exact (List.nodup_append.1 this).2.1
      · rw [if_neg e]; exact h.sep.nod (j + 1)
  · have m : ∀ j, k ∈ keys (own (fun j => if j = i then some (b, rb) else R j) hand j) → ((j = 0 ∧ k ∈ keys hand) ∨ (j = i + 1 ∧ k ∈ keys hand') ∨ (j ≠ i + 1 ∧ j ≠ 0 ∧ k ∈ keys (own R (hand ++ hand') j))) := by
      intro j hk
      cases j with
      | zero => exact .inl ⟨rfl, hk⟩
      | succ j =>
        simp only [own] at hk
        by_cases e : j = i
        · rw [if_pos e] at hk; have hk : k ∈ keys (fragOf b rb) := hk; rw [hf] at hk; exact .inr (.inl ⟨by rw [e], hk⟩)
        · rw [if_neg e] at hk; exact .inr (.inr ⟨by simpa using e, by simp, hk⟩)
    have n0 := h.sep.nod 0
    rw [own_zero, keys_append] at n0
    have dj := (List.nodup_append.1 n0).2.2
    have z : ∀ j, j ≠ 0 → k ∈ keys (own R (hand ++ hand') j) → k ∉ keys hand ∧ k ∉ keys hand' := fun j hj hk => by
      have := h.sep.sep j 0 hj k hk
      rw [own_zero, keys_append] at this
      exact ⟨fun h => this (List.mem_append_left _ h), fun h => this (List.mem_append_right _ h)⟩
    rcases m j h1 with ⟨e1, a1⟩ | ⟨e1, a1⟩ | ⟨e1, e1', a1⟩ <;> rcases m l h2 with ⟨e2, a2⟩ | ⟨e2, a2⟩ | ⟨e2, e2', a2⟩
    · exact hjl (e1.trans e2.symm)
    · exact dj k a1 k a2 rfl
    · exact (z l e2' a2).1 a1
    · exact dj k a2 k a1 rfl
    · exact hjl (e1.trans e2.symm)
    · exact (z l e2' a2).2 a1
    · exact (z j e1' a1).1 a2
    · exact (z j e1' a1).2 a2
    · exact h.sep.sep j l hjl k a1 a2
  · cases j with
    | zero => exact ⟨0, List.mem_append_left _ hp⟩
    | succ j =>
      simp only [own] at hp
      by_cases e : j = i
      · rw [if_pos e] at hp; have hp : p ∈ fragOf b rb := hp; rw [hf] at hp; exact ⟨0, List.mem_append_right _ hp⟩
      · rw [if_neg e] at hp; exact ⟨j + 1, hp⟩
  · show SVV w Im _ (sget (st.slots.map (killAll i)) n) _
    rw [show killAll i = forget fun _ s _ => decide (s = i) from rfl, sget_map]
    exact hs.2 (h.slots n)
  · show (st.slots.map (killAll i)).length = vs.size
    rw [List.length_map]; exact h.len
end
end Go.Proofs.Ytlgbhaigpecdoaa.V
