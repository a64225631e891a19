/- How slots and boxes stand to a memory; reads. -/
import Derived.Test.YtgdaiifhedpffaaDoorVRun
import Derived.WalkKit
set_option linter.unusedVariables false
set_option linter.unusedSimpArgs false
namespace Go.Proofs.YtgdaiifhedpffaaDoor.V
open Go
def navStep (w : World) : Ty → List Value → Option (Nat × Nat) → Step → Option (List Value × Option (Nat × Nat))
  | .pair a _, cs, ad, .fst => some (cs.take (sz a), ad)
  | .pair a _, cs, ad, .snd => some (cs.drop (sz a), ad.map fun p => (p.1, p.2 + sz a))
  | .slc t, cs, _, .idx i => match cs with
    | [.slice (some ⟨b, o, none⟩) _ _] => match w.heap[b]? with
      | some (.cells c _ _) => some ((c.toList.drop (o + i * sz t)).take (sz t), some (b, o + i * sz t))
      | _ => none
    | _ => none
  | _, _, _, _ => none
def nav (w : World) : Ty → List Value → Option (Nat × Nat) → Path → Option (List Value × Option (Nat × Nat))
  | _, cs, ad, [] => some (cs, ad)
  | t, cs, ad, s :: q => match navStep w t cs ad s with
    | some p => nav w (tstep t s) p.1 p.2 q
    | none => none
def VStep : (t : Ty) → den t → Md → Step → Prop
  | .pair _ _, _, _, .fst => True
  | .pair _ _, _, _, .snd => True
  | .slc _, x, m, .idx i => i < List.length x ∧ ∃ me, m = .own me
  | _, _, _, _ => False
def Valid : (t : Ty) → den t → Md → Path → Prop
  | _, _, _, [] => True
  | t, x, m, s :: q => VStep t x m s ∧ Valid (tstep t s) (vstep t x s) (m.step s) q
structure RB where
  blk : Nat
  cs : List Value
  h : Frag
abbrev Real := Nat → Option (Bx × RB)
def blkOf (b : Bx) (r : RB) : Nat := b.pin.getD r.blk
def locOf (b : Bx) (r : RB) : Option (Nat × Nat) := b.mem.map fun _ => (blkOf b r, 0)
def fragOf (b : Bx) (r : RB) : Frag := match b.mem with
  | some e => (blkOf b r, .cells r.cs.toArray e) :: r.h
  | none => r.h
def RefOK (w : World) (R : Real) (r : Nat) (q : Path) (v : Value) : Prop :=
  ∀ b rb, R r = some (b, rb) → Valid b.t b.x b.m q ∧ isHd (ctype b.t q) = true ∧ ∃ ad, nav w b.t rb.cs (locOf b rb) q = some ([v], ad)
def SubOK (w : World) (R : Real) (r : Nat) (q : Path) (lo n : Nat) (v : Value) : Prop :=
  ∃ u, RefOK w R r q u ∧ ∀ b rb, R r = some (b, rb) → ∃ t A len cap A' cap', ctype b.t q = .slc t ∧ u = .slice A len cap ∧ v = .slice A' n cap' ∧ lo + n ≤ len ∧ n ≤ cap' ∧ lo + cap' ≤ cap ∧
    (0 < cap' → A' = A.map fun a => a.add (lo * sz t))
def PtrOK (w : World) (R : Real) (r : Nat) (q : Path) (v : Value) : Prop :=
  ∀ b rb, R r = some (b, rb) → Valid b.t b.x b.m q ∧ ∃ cs b' o, nav w b.t rb.cs (locOf b rb) q = some (cs, some (b', o)) ∧ v = .pointer (some ⟨b', o, none⟩)
def SVX (w : World) (Im : Nat → Prop) (R : Real) : SV → Bool → List Value → Prop
  | .undef, _, cs => cs.length = 1
  | .con t x, _, cs => Rep w Im t .ro x cs []
  | .raw v, _, cs => cs = v.cells.toList
  | .emp, _, cs => ∃ A, cs = [.slice A 0 0]
  | .agg a b, _, cs => ∃ c1 c2, cs = c1 ++ c2 ∧ SVX w Im R a false c1 ∧ SVX w Im R b false c2
  | .ref r q, _, cs => ∃ v, cs = [v] ∧ RefOK w R r q v
  | .sub r q lo n, _, cs => ∃ v, cs = [v] ∧ SubOK w R r q lo n v
  | .ptr r q, _, cs => ∃ v, cs = [v] ∧ PtrOK w R r q v
  | .pro t x, _, cs => ∃ b o c e fz, cs = [.pointer (some ⟨b, o, none⟩)] ∧ Im b ∧ w.heap[b]? = some (.cells c e fz) ∧ Rep w Im t .ro x ((c.toList.drop o).take (sz t)) []
  | .nul t x, _, cs => Rep w Im (.slc t) .rz x cs []
  | .fn f c, _, cs => ∃ caps : Array Value, cs = [.func (.func f) #[] caps] ∧ SVX w Im R c true caps.toList
  | .tnil, b, vs => b = true ∧ vs = []
  | .tcons a s, b, vs => b = true ∧ ∃ v vs', vs = v :: vs' ∧ (a = .undef ∨ ∃ cs, (if isAgg a = true then v = .agg cs.toArray else cs = [v]) ∧ SVX w Im R a false cs) ∧ SVX w Im R s true vs'
def SVV (w : World) (Im : Nat → Prop) (R : Real) (s : SV) (v : Value) : Prop :=
  s = .undef ∨ (∃ vs : Array Value, v = .tuple vs ∧ SVX w Im R s true vs.toList ∧ (s = .tnil ∨ ∃ a b, s = .tcons a b)) ∨
  (∃ cs, (if isAgg s = true then v = .agg cs.toArray else cs = [v]) ∧ SVX w Im R s false cs)
theorem isAgg_forget (p : Bool → Nat → Path → Bool) (s : SV) : isAgg (forget p s) = isAgg s := by
  cases s <;> simp only [forget] <;> (try rfl) <;> split <;> rfl
theorem SVX.forget {w w' : World} {Im Im' : Nat → Prop} {R R' : Real} {p : Bool → Nat → Path → Bool} (hi : ∀ b, Im b → Im' b) (hw : ∀ b, Im b → w'.heap[b]? = w.heap[b]?)
    (hr : ∀ r q v, p false r q = false → RefOK w R r q v → RefOK w' R' r q v)
    (hs : ∀ r q lo n v, p false r q = false → SubOK w R r q lo n v → SubOK w' R' r q lo n v)
    (hp : ∀ r q v, p true r q = false → PtrOK w R r q v → PtrOK w' R' r q v) :
    ∀ {s : SV} {b : Bool} {cs : List Value}, SVX w Im R s b cs → SVX w' Im' R' (V.forget p s) b cs
  | .undef, _, _, h => h
  | .con t x, _, _, h => Rep.frame hi hw h
  | .nul t x, _, _, h => Rep.frame (t := .slc t) (m := .rz) hi hw h
  | .raw v, _, _, h => h
  | .emp, _, _, h => h
  | .agg a b, _, _, ⟨c1, c2, e, h1, h2⟩ => ⟨c1, c2, e, h1.forget hi hw hr hs hp, h2.forget hi hw hr hs hp⟩
  | .ref r q, _, cs, ⟨v, e, h⟩ => by
    simp only [V.forget]
    split
    · simp [SVX, e]
    · rename_i hh; exact ⟨v, e, hr _ _ _ (by simpa using hh) h⟩
  | .sub r q lo n, _, cs, ⟨v, e, h⟩ => by
    simp only [V.forget]
    split
    · simp [SVX, e]
    · rename_i hh; exact ⟨v, e, hs _ _ _ _ _ (by simpa using hh) h⟩
  | .ptr r q, _, cs, ⟨v, e, h⟩ => by
    simp only [V.forget]
    split
    · simp [SVX, e]
    · rename_i hh; exact ⟨v, e, hp _ _ _ (by simpa using hh) h⟩
  | .pro t x, _, _, ⟨b, o, c, e, fz, e1, e2, e3, h⟩ => ⟨b, o, c, e, fz, e1, hi b e2, (hw b e2).trans e3, Rep.frame hi hw h⟩
  | .fn f c, _, _, ⟨caps, e, h⟩ => ⟨caps, e, h.forget hi hw hr hs hp⟩
  | .tnil, _, _, h => h
  | .tcons a s, _, _, ⟨e0, v, vs', e, h1, h2⟩ => by
    refine ⟨e0, v, vs', e, ?_, h2.forget hi hw hr hs hp⟩
    rcases h1 with h1 | ⟨cs, e1, h1⟩
    · subst h1; exact .inl rfl
    · exact .inr ⟨cs, by rw [isAgg_forget]; exact e1, h1.forget hi hw hr hs hp⟩
theorem SVV.forget {w w' : World} {Im Im' : Nat → Prop} {R R' : Real} {p : Bool → Nat → Path → Bool} (hi : ∀ b, Im b → Im' b) (hw : ∀ b, Im b → w'.heap[b]? = w.heap[b]?)
    (hr : ∀ r q v, p false r q = false → RefOK w R r q v → RefOK w' R' r q v)
    (hs : ∀ r q lo n v, p false r q = false → SubOK w R r q lo n v → SubOK w' R' r q lo n v)
    (hp : ∀ r q v, p true r q = false → PtrOK w R r q v → PtrOK w' R' r q v)
    {s : SV} {v : Value} (h : SVV w Im R s v) : SVV w' Im' R' (V.forget p s) v := by
  rcases h with h | ⟨vs, e, h, h2⟩ | ⟨cs, e, h⟩
  · subst h; exact .inl rfl
  · refine .inr (.inl ⟨vs, e, h.forget hi hw hr hs hp, ?_⟩)
    rcases h2 with h2 | ⟨a, b, h2⟩ <;> subst h2
    · exact .inl rfl
    · exact .inr ⟨_, _, rfl⟩
  · exact .inr (.inr ⟨cs, by rw [isAgg_forget]; exact e, h.forget hi hw hr hs hp⟩)
theorem forget_none (s : SV) : V.forget (fun _ _ _ => false) s = s := by
  induction s with
  | agg a b iha ihb => simp [V.forget, iha, ihb]
  | tcons a b iha ihb => simp [V.forget, iha, ihb]
  | fn f c ih => simp [V.forget, ih]
  | _ => simp [V.forget]
theorem SVV.same {w w' : World} {Im Im' : Nat → Prop} {R R' : Real} (hi : ∀ b, Im b → Im' b) (hw : ∀ b, Im b → w'.heap[b]? = w.heap[b]?)
    (hr : ∀ r q v, RefOK w R r q v → RefOK w' R' r q v) (hs : ∀ r q lo n v, SubOK w R r q lo n v → SubOK w' R' r q lo n v)
    (hp : ∀ r q v, PtrOK w R r q v → PtrOK w' R' r q v) {s : SV} {v : Value} (h : SVV w Im R s v) : SVV w' Im' R' s v := by
  have := h.forget (p := fun _ _ _ => false) hi hw (fun r q v _ => hr r q v) (fun r q lo n v _ => hs r q lo n v) (fun r q v _ => hp r q v)
  rwa [forget_none] at this
theorem SVX.same {w w' : World} {Im Im' : Nat → Prop} {R R' : Real} (hi : ∀ b, Im b → Im' b) (hw : ∀ b, Im b → w'.heap[b]? = w.heap[b]?)
    (hr : ∀ r q v, RefOK w R r q v → RefOK w' R' r q v) (hs : ∀ r q lo n v, SubOK w R r q lo n v → SubOK w' R' r q lo n v)
    (hp : ∀ r q v, PtrOK w R r q v → PtrOK w' R' r q v) {s : SV} {b : Bool} {cs : List Value} (h : SVX w Im R s b cs) : SVX w' Im' R' s b cs := by
  have := h.forget (p := fun _ _ _ => false) hi hw (fun r q v _ => hr r q v) (fun r q lo n v _ => hs r q lo n v) (fun r q v _ => hp r q v)
  rwa [forget_none] at this
structure Gl where
  w0 : World
  ks : List Nat
  im0 : Nat → Prop
  hd : Nat → Nat → Value
def RowOk (G : Gl) (b : Bx) (r : RB) : Prop := ∀ k, b.row = some k → (b.mem = none → r.cs = [G.hd k.1 k.2]) ∧ (b.mem ≠ none → ∀ j ∈ rowOffs b.t 0, ∀ c, r.cs[j]? = some c → G.hd k.1 (k.2 + j) = c)
theorem RowOk.no {G : Gl} {b : Bx} {r : RB} (h : b.row = none) : RowOk G b r := fun k hk => by rw [h] at hk; cases hk
theorem RowOk.same {G : Gl} {b b' : Bx} {r r' : RB} (h : RowOk G b r) (hm : b'.mem = b.mem) (hw : b'.row = b.row) (hc : r'.cs = r.cs) (ht : b'.t = b.t) : RowOk G b' r' := fun k hk => by
  rw [hc, hm, ht]; exact h k (hw ▸ hk)
structure Keep (G : Gl) (w : World) : Prop where
  os : w.os = G.w0.os
  tape : w.tape = G.w0.tape
  output : w.output = G.w0.output
  size : G.w0.heap.size ≤ w.heap.size
  block : ∀ b, b < G.w0.heap.size → b ∉ G.ks → w.heap[b]? = G.w0.heap[b]?
structure Sep (G : Gl) (O : Nat → Frag) (w : World) (Im : Nat → Prop) : Prop where
  nod : ∀ i, (keys (O i)).Nodup
  sep : ∀ i j, i ≠ j → ∀ k ∈ keys (O i), k ∉ keys (O j)
  heap : ∀ i, ∀ p ∈ O i, w.heap[p.1]? = some p.2
  im : ∀ i, ∀ k ∈ keys (O i), ¬ Im k
  fresh : ∀ i, ∀ k ∈ keys (O i), G.w0.heap.size ≤ k ∨ k ∈ G.ks
  imlt : ∀ k, Im k → k < w.heap.size
  imok : ∀ k, Im k → G.im0 k ∨ G.w0.heap.size ≤ k ∨ k ∈ G.ks
def own (R : Real) (hand : Frag) : Nat → Frag
  | 0 => hand
  | i + 1 => match R i with
    | some p => fragOf p.1 p.2
    | none => []
structure Inv (G : Gl) (st : St) (vs : Array Value) (w : World) (Im : Nat → Prop) (R : Real) (hand : Frag) : Prop where
  box : ∀ i, bget st.boxes i = (R i).map (·.1)
  rep : ∀ i b r, R i = some (b, r) → Rep w Im b.t b.m b.x r.cs r.h
  sep : Sep G (own R hand) w Im
  slots : ∀ n, SVV w Im R (sget st.slots n) (vs.getD n undef)
  len : st.slots.length = vs.size
  keep : Keep G w
  row : ∀ i b r, R i = some (b, r) → RowOk G b r
end Go.Proofs.YtgdaiifhedpffaaDoor.V
set_option linter.unusedVariables false
set_option linter.unusedSimpArgs false
namespace Go.Proofs.YtgdaiifhedpffaaDoor.V
open Go
abbrev HeapOK (w : World) (h : Frag) : Prop := ∀ p ∈ h, w.heap[p.1]? = some p.2
structure Grow (w w' : World) (Im Im' : Nat → Prop) : Prop where
  im : ∀ b, Im b → Im' b
  heap : ∀ b, Im b → w'.heap[b]? = w.heap[b]?
theorem Grow.refl (w : World) (Im : Nat → Prop) : Grow w w Im Im := ⟨fun _ h => h, fun _ _ => rfl⟩
theorem Grow.trans {a b c : World} {I J K : Nat → Prop} (h : Grow a b I J) (k : Grow b c J K) : Grow a c I K :=
  ⟨fun x hx => k.im x (h.im x hx), fun x hx => (k.heap x (h.im x hx)).trans (h.heap x hx)⟩
theorem Rep.grow {w w' : World} {Im Im' : Nat → Prop} (g : Grow w w' Im Im') {t : Ty} {m : Md} {x : den t} {cs : List Value} {h : Frag} (r : Rep w Im t m x cs h) : Rep w' Im' t m x cs h := r.frame g.im g.heap
theorem Rep.own_cons {w : World} {Im : Nat → Prop} {t : Ty} {m : Md} {xs : List (den t)} {cs : List Value} {h : Frag} (r : Rep w Im (.slc t) (.own m) xs cs h) (hne : xs ≠ []) :
    ∃ b o c e cap h', cs = [.slice (some ⟨b, o, none⟩) xs.length cap] ∧ h = (b, .cells c e) :: h' ∧ xs.length ≤ cap ∧ cap ≤ maxLen ∧ o + cap * sz t ≤ c.size ∧
        RepL (fun x cs h => Rep w Im t m x cs h) xs (c.toList.drop o) h' := by
  rcases r with ⟨e, _⟩ | r
  · exact absurd e hne
  · exact r
theorem valid0 : ∀ (q : Path) {t : Ty} {m m' : Md} {x x' : den t}, lev q = 0 → Valid t x m q → Valid t x' m' q
  | [], _, _, _, _, _, _, _ => trivial
  | s :: q, t, m, m', x, x', h0, ⟨hs, hv⟩ => by
    cases t <;> cases s <;> simp only [VStep] at hs <;> (try exact hs.elim)
    · exact ⟨trivial, valid0 q (by simpa [lev] using h0) hv⟩
    · exact ⟨trivial, valid0 q (by simpa [lev] using h0) hv⟩
    · simp [lev] at h0
theorem nav0 : ∀ (q : Path) {t : Ty} {m : Md} {x : den t} {w w' : World} {cs cs' c : List Value} {ad ad2 : Option (Nat × Nat)}, lev q = 0 → Valid t x m q → nav w t cs ad q = some (c, ad2) → ∃ c', nav w' t cs' ad q = some (c', ad2)
  | [], _, _, _, _, _, _, _, _, _, _, _, _, h => by simp [nav] at h ⊢; exact h.2
  | s :: q, t, m, x, w, w', cs, cs', c, ad, ad2, h0, ⟨hs, hv⟩, h => by
    cases t <;> cases s <;> simp only [VStep] at hs <;> (try exact hs.elim)
    · simp only [nav, navStep] at h ⊢
      exact nav0 q (by simpa [lev] using h0) hv h
    · simp only [nav, navStep] at h ⊢
      exact nav0 q (by simpa [lev] using h0) hv h
    · simp [lev] at h0
theorem flat_valid : ∀ (q : Path) {t : Ty} {m : Md} {x : den t}, flat t = true → Valid t x m q → lev q = 0 ∧ flat (ctype t q) = true
  | [], _, _, _, hf, _ => ⟨rfl, hf⟩
  | s :: q, t, m, x, hf, ⟨hs, hv⟩ => by
    cases t <;> cases s <;> simp only [VStep] at hs <;> (try exact hs.elim)
    · simp only [flat, Bool.and_eq_true] at hf
      have := flat_valid q (t := _) hf.1 hv
      exact ⟨by simpa [lev] using this.1, this.2⟩
    · simp only [flat, Bool.and_eq_true] at hf
      have := flat_valid q (t := _) hf.2 hv
      exact ⟨by simpa [lev] using this.1, this.2⟩
    · simp [flat] at hf
theorem getD_set {α : Type} (xs : List α) (i j : Nat) (d y : α) (hi : i < xs.length) : (xs.set i y).getD j d = if j = i then y else xs.getD j d := by
  by_cases hji : j = i
  · subst hji; simp [List.getD_eq_getElem?_getD, hi]
  · rw [if_neg hji]; simp only [List.getD_eq_getElem?_getD]; rw [List.getElem?_set_ne (Ne.symm hji)]
theorem nav_frame {w w' : World} {Im : Nat → Prop} : ∀ (q : Path) {t : Ty} {m : Md} {x : den t} {cs : List Value} {h : Frag} {ad : Option (Nat × Nat)}, Valid t x m q → Rep w Im t m x cs h → HeapOK w h →
    (∀ k ∈ keys h, w'.heap[k]? = w.heap[k]?) → nav w' t cs ad q = nav w t cs ad q
  | [], _, _, _, _, _, _, _, _, _, _ => rfl
  | s :: q, t, m, x, cs, h, ad, ⟨hs, hv⟩, hr, hh, hk => by
    cases t <;> cases s <;> simp only [VStep] at hs <;> (try exact hs.elim)
    case pair.fst a b =>
      obtain ⟨c1, c2, h1, h2, e1, e2, r1, r2⟩ := hr
      subst e1; subst e2
      have hl := r1.len
      have et : (c1 ++ c2).take (sz a) = c1 := by rw [← hl]; simp
      simp only [nav, navStep, et]
      exact nav_frame (t := a) q hv r1 (fun p hp => hh p (List.mem_append_left _ hp)) (fun k hk' => hk k (by rw [keys_append]; exact List.mem_append_left _ hk'))
    case pair.snd a b =>
      obtain ⟨c1, c2, h1, h2, e1, e2, r1, r2⟩ := hr
      subst e1; subst e2
      have hl := r1.len
      have et : (c1 ++ c2).drop (sz a) = c2 := by rw [← hl]; simp
      simp only [nav, navStep, et]
      exact nav_frame (t := b) q hv r2 (fun p hp => hh p (List.mem_append_right _ hp)) (fun k hk' => hk k (by rw [keys_append]; exact List.mem_append_right _ hk'))
    case slc.idx t i =>
      obtain ⟨hi, me, rfl⟩ := hs
      have hi : i < List.length x := hi
      obtain ⟨b, o, c, e, cap, h', e1, e2, e3, e4, e5, r1⟩ := Rep.own_cons hr (by intro h0; rw [h0] at hi; simp at hi)
      subst e1; subst e2
      obtain ⟨pre0, c0, post0, hp, g0, hq, d1, d2, d3, d4, d5, d6⟩ := RepL.nth (n := sz t) (dflt t) (fun _ _ _ r => r.len) i hi r1
      subst d2
      have hhb : w.heap[b]? = some (.cells c e (0, 0)) := hh (b, .cells c e) (List.mem_cons_self ..)
      have hhb' : w'.heap[b]? = some (.cells c e (0, 0)) := (hk b (by simp [keys])).trans hhb
      have hl0 : c0.length = sz t := d4.len
      have et : (c.toList.drop (o + i * sz t)).take (sz t) = c0 := by
        rw [← List.drop_drop, d1, ← d3]; simp [← hl0]
      simp only [nav, navStep, hhb, hhb', et]
      exact nav_frame q (t := t) hv d4 (fun p hp' => hh p (List.mem_cons_of_mem _ (List.mem_append_left _ (List.mem_append_right _ hp')))) (fun k hk' => hk k (by
        simp only [keys_cons, keys_append, List.mem_cons, List.mem_append]; exact .inr (.inl (.inr hk'))))
theorem keys_mem {h : Frag} {k : Nat} : k ∈ keys h ↔ ∃ p ∈ h, p.1 = k := by simp [keys]
def Stays (fl : Prop) (t : Ty) (q2 : Path) (same : Prop) (n n' : Option (List Value × Option (Nat × Nat))) : Prop :=
  ∀ c ad2, n = some (c, ad2) → ∃ c', n' = some (c', ad2) ∧ (isHd (ctype t q2) = true → (fl ∨ same) → c' = c)
theorem focus {w : World} {Im : Nat → Prop} : ∀ (q : Path) {t : Ty} {m : Md} {x : den t} {cs : List Value} {h : Frag} {ad : Option (Nat × Nat)}, Valid t x m q → Rep w Im t m x cs h → HeapOK w h → (keys h).Nodup →
    ∃ cs' ad' A h1 B, nav w t cs ad q = some (cs', ad') ∧ h = A ++ h1 ++ B ∧ Rep w Im (ctype t q) (mget m q) (cget t x q) cs' h1 ∧
      (lev q = 0 → ∃ pre post, cs = pre ++ cs' ++ post ∧ ad' = ad.map (fun p => (p.1, p.2 + pre.length)) ∧
        (∀ w' Im', Grow w w' Im Im' → ∀ mm y c2 h2, Rep w' Im' (ctype t q) mm y c2 h2 → Rep w' Im' t (mput m q mm) (cput t x q y) (pre ++ c2 ++ post) (A ++ h2 ++ B)) ∧
        (∀ w' Im', Grow w w' Im Im' → ∀ y c2 h2, Rep w' Im' (ctype t q) (mget m q) y c2 h2 → Rep w' Im' t m (cput t x q y) (pre ++ c2 ++ post) (A ++ h2 ++ B)) ∧
        (∀ w' c2, c2.length = sz (ctype t q) → (∀ k ∈ keys h, w'.heap[k]? = w.heap[k]?) → ∀ y q2, Valid t x m q2 → (flat (ctype t q) = true ∨ lev q2 = 0) →
          (flat (ctype t q) = true → Valid t (cput t x q y) m q2) ∧ Stays (flat (ctype t q) = true) t q2 False (nav w t cs ad q2) (nav w' t (pre ++ c2 ++ post) ad q2))) ∧
      (lev q ≠ 0 → ∃ A1 A2 b c e pre post, A = A1 ++ (b, .cells c e) :: A2 ∧ c.toList = pre ++ cs' ++ post ∧ ad' = some (b, pre.length) ∧
        (∀ w' Im', Grow w w' Im Im' → ∀ y c2 h2, Rep w' Im' (ctype t q) (mget m q) y c2 h2 →
          Rep w' Im' t m (cput t x q y) cs (A1 ++ (b, .cells (pre ++ c2 ++ post).toArray e) :: A2 ++ h2 ++ B)) ∧
        (∀ w' c2, c2.length = sz (ctype t q) → w'.heap[b]? = some (.cells (pre ++ c2 ++ post).toArray e (0, 0)) → (∀ k ∈ keys h, k ≠ b → w'.heap[k]? = w.heap[k]?) →
          ∀ y q2, Valid t x m q2 → (flat (ctype t q) = true ∨ lev q2 ≤ lev q) →
          Valid t (cput t x q y) m q2 ∧ Stays (flat (ctype t q) = true) t q2 (lev q2 < lev q) (nav w t cs ad q2) (nav w' t cs ad q2))) := by
  intro q
  induction q with
  | nil =>
    intro t m x cs h ad hv hr hh hnd
    refine ⟨cs, ad, [], h, [], rfl, by simp, hr, fun _ => ⟨[], [], by simp, ?_, ?_, ?_, ?_⟩, fun h0 => absurd rfl h0⟩
    · cases ad <;> simp
    · intro w' Im' g mm y c2 h2 r; simp only [List.nil_append, List.append_nil]; exact r
    · intro w' Im' g y c2 h2 r; simp only [List.nil_append, List.append_nil]; exact r
    · intro w' c2 hc2 hk y q2 hv2 hc
      have h0 : lev q2 = 0 := by
        rcases hc with hc | hc
        · exact (flat_valid q2 (t := t) hc hv2).1
        · exact hc
      refine ⟨fun _ => valid0 q2 h0 hv2, fun c ad2 hn => ?_⟩
      obtain ⟨c', hc'⟩ := nav0 (w' := w') (cs' := c2) q2 h0 hv2 hn
      refine ⟨c', by simpa using hc', fun ht' hs => ?_⟩
      rcases hs with hs | hs
      · have := (flat_valid q2 (t := t) hs hv2).2
        rw [flat_hd ht'] at this
        cases this
      · exact hs.elim
  | cons s q ih =>
    intro t m x cs h ad hv hr hh hnd
    obtain ⟨hs, hv⟩ := hv
    cases t with
    | pair a b =>
      cases s with
      | fst =>
        obtain ⟨c1, c2, h1, h2, e1, e2, r1, r2⟩ := hr
        subst e1; subst e2
        have hl := r1.len
        rw [keys_append] at hnd
        obtain ⟨hn1, hn2, hn12⟩ := List.nodup_append.1 hnd
        obtain ⟨cs', ad', A, g1, B, n1, n2, n3, n4, n5⟩ := ih (ad := ad) hv r1 (fun p hp => hh p (List.mem_append_left _ hp)) hn1
        have et : (c1 ++ c2).take (sz a) = c1 := by rw [← hl]; simp
        have ed : (c1 ++ c2).drop (sz a) = c2 := by rw [← hl]; simp
        have hsub : ∀ k ∈ keys (A ++ g1 ++ B), k ∈ keys h1 := by intro k hk; rw [n2]; exact hk
        refine ⟨cs', ad', A, g1, B ++ h2, ?_, by rw [n2]; simp, n3, ?_, ?_⟩
        · simpa [nav, navStep, et] using n1
        · intro h0
          obtain ⟨pre, post, d1, d2, d3, d4, d5⟩ := n4 (by simpa [lev] using h0)
          refine ⟨pre, post ++ c2, by rw [d1]; simp, d2, ?_, ?_, ?_⟩
          · intro w' Im' g mm y c2' h2' r
            exact ⟨pre ++ c2' ++ post, c2, A ++ h2' ++ B, h2, by simp, by simp, by show Rep w' Im' a (Md.mk _ _).fst _ _ _; rw [Md.mk_fst]; exact d3 w' Im' g mm y c2' h2' r, by show Rep w' Im' b (Md.mk _ _).snd _ _ _; rw [Md.mk_snd]; exact r2.grow g⟩
          · intro w' Im' g y c2' h2' r
            exact ⟨pre ++ c2' ++ post, c2, A ++ h2' ++ B, h2, by simp, by simp, d4 w' Im' g y c2' h2' r, r2.grow g⟩
          · intro w' c2' hc2 hk y q2 hv2 hc
            have hcl : c2'.length = cs'.length := hc2.trans n3.len.symm
            have hlen : (pre ++ c2' ++ post).length = sz a := by
              rw [← hl, d1]; simp [hcl]
            have e3 : pre ++ c2' ++ (post ++ c2) = (pre ++ c2' ++ post) ++ c2 := by simp
            have et' : (pre ++ c2' ++ (post ++ c2)).take (sz a) = pre ++ c2' ++ post := by rw [e3, ← hlen]; exact List.take_left
            have ed' : (pre ++ c2' ++ (post ++ c2)).drop (sz a) = c2 := by rw [e3, ← hlen]; exact List.drop_left
            cases q2 with
            | nil =>
              refine ⟨fun _ => trivial, fun c ad2 hn => ?_⟩
              have hn2 : ad = ad2 := by simp [nav] at hn; exact hn.2
              subst hn2
              exact ⟨_, rfl, fun ht' => by simp [ctype, isHd] at ht'⟩
            | cons s2 q2 =>
              obtain ⟨hs2, hv2⟩ := hv2
              cases s2 with
              | fst =>
                obtain ⟨u1, u2⟩ := d5 w' c2' hc2 (fun k hk' => hk k (by rw [keys_append]; exact List.mem_append_left _ hk')) y q2 hv2 hc
                refine ⟨fun hf => ⟨trivial, u1 hf⟩, ?_⟩
                show Stays _ _ _ _ (nav w a ((c1 ++ c2).take (sz a)) ad q2) (nav w' a ((pre ++ c2' ++ (post ++ c2)).take (sz a)) ad q2)
                rw [et, et']; exact u2
              | snd =>
                refine ⟨fun hf => ⟨trivial, hv2⟩, ?_⟩
                show Stays _ _ _ _ (nav w b ((c1 ++ c2).drop (sz a)) _ q2) (nav w' b ((pre ++ c2' ++ (post ++ c2)).drop (sz a)) _ q2)
                rw [ed, ed', nav_frame (t := b) q2 hv2 r2 (fun p hp => hh p (List.mem_append_right _ hp)) (fun k hk' => hk k (by rw [keys_append]; exact List.mem_append_right _ hk'))]
                exact fun c ad2 hn => ⟨c, hn, fun _ _ => rfl⟩
              | idx i => exact absurd hs2 (by simp [VStep])
        · intro h0
          obtain ⟨A1, A2, b', c, e, pre, post, d0, d1, d2, d3, d4⟩ := n5 (by simpa [lev] using h0)
          have hb' : b' ∈ keys h1 := by rw [n2, d0]; simp [keys]
          refine ⟨A1, A2, b', c, e, pre, post, d0, d1, d2, ?_, ?_⟩
          · intro w' Im' g y c2' h2' r
            exact ⟨c1, c2, _, h2, rfl, by simp, d3 w' Im' g y c2' h2' r, r2.grow g⟩
          · intro w' c2' hc2 hb hk y q2 hv2 hc
            have hcl : c2'.length = cs'.length := hc2.trans n3.len.symm
            cases q2 with
            | nil => exact ⟨trivial, fun c ad2 hn => ⟨_, hn, fun ht' => by simp [ctype, isHd] at ht'⟩⟩
            | cons s2 q2 =>
              obtain ⟨hs2, hv2⟩ := hv2
              cases s2 with
              | fst =>
                obtain ⟨u1, u2⟩ := d4 w' c2' hc2 hb (fun k hk' => hk k (by rw [keys_append]; exact List.mem_append_left _ hk')) y q2 hv2 hc
                refine ⟨⟨trivial, u1⟩, ?_⟩
                show Stays _ _ _ _ (nav w a ((c1 ++ c2).take (sz a)) ad q2) (nav w' a ((c1 ++ c2).take (sz a)) ad q2)
                rw [et]; exact u2
              | snd =>
                refine ⟨⟨trivial, hv2⟩, ?_⟩
                show Stays _ _ _ _ (nav w b ((c1 ++ c2).drop (sz a)) _ q2) (nav w' b ((c1 ++ c2).drop (sz a)) _ q2)
                rw [ed, nav_frame (t := b) q2 hv2 r2 (fun p hp => hh p (List.mem_append_right _ hp)) (fun k hk' => hk k (by rw [keys_append]; exact List.mem_append_right _ hk') (fun e => hn12 _ hb' _ hk' e.symm))]
                exact fun c ad2 hn => ⟨c, hn, fun _ _ => rfl⟩
              | idx i => exact absurd hs2 (by simp [VStep])
      | snd =>
        obtain ⟨c1, c2, h1, h2, e1, e2, r1, r2⟩ := hr
        subst e1; subst e2
        have hl := r1.len
        rw [keys_append] at hnd
        obtain ⟨hn1, hn2, hn12⟩ := List.nodup_append.1 hnd
        obtain ⟨cs', ad', A, g1, B, n1, n2, n3, n4, n5⟩ := ih (ad := ad.map fun p => (p.1, p.2 + sz a)) hv r2 (fun p hp => hh p (List.mem_append_right _ hp)) hn2
        have et : ∀ c2 : List Value, (c1 ++ c2).take (sz a) = c1 := by intro c2; rw [← hl]; simp
        have ed : ∀ c2 : List Value, (c1 ++ c2).drop (sz a) = c2 := by intro c2; rw [← hl]; simp
        refine ⟨cs', ad', h1 ++ A, g1, B, ?_, by rw [n2]; simp, n3, ?_, ?_⟩
        · simpa [nav, navStep, ed] using n1
        · intro h0
          obtain ⟨pre, post, d1, d2, d3, d4, d5⟩ := n4 (by simpa [lev] using h0)
          refine ⟨c1 ++ pre, post, by rw [d1]; simp, ?_, ?_, ?_, ?_⟩
          · rw [d2]; cases ad <;> simp [hl, Nat.add_assoc]
          · intro w' Im' g mm y c2' h2' r
            exact ⟨c1, pre ++ c2' ++ post, h1, A ++ h2' ++ B, by simp, by simp, by show Rep w' Im' a (Md.mk _ _).fst _ _ _; rw [Md.mk_fst]; exact r1.grow g, by show Rep w' Im' b (Md.mk _ _).snd _ _ _; rw [Md.mk_snd]; exact d3 w' Im' g mm y c2' h2' r⟩
          · intro w' Im' g y c2' h2' r
            exact ⟨c1, pre ++ c2' ++ post, h1, A ++ h2' ++ B, by simp, by simp, r1.grow g, d4 w' Im' g y c2' h2' r⟩
          · intro w' c2' hc2 hk y q2 hv2 hc
            have hcl : c2'.length = cs'.length := hc2.trans n3.len.symm
            have ea : c1 ++ pre ++ c2' ++ post = c1 ++ (pre ++ c2' ++ post) := by simp
            rw [ea]
            cases q2 with
            | nil =>
              refine ⟨fun _ => trivial, fun c ad2 hn => ?_⟩
              have hn2 : ad = ad2 := by simp [nav] at hn; exact hn.2
              subst hn2
              exact ⟨_, rfl, fun ht' => by simp [ctype, isHd] at ht'⟩
            | cons s2 q2 =>
              obtain ⟨hs2, hv2⟩ := hv2
              cases s2 with
              | fst =>
                refine ⟨fun hf => ⟨trivial, hv2⟩, ?_⟩
                show Stays _ _ _ _ (nav w a ((c1 ++ c2).take (sz a)) _ q2) (nav w' a ((c1 ++ (pre ++ c2' ++ post)).take (sz a)) _ q2)
                rw [et, et, nav_frame (t := a) q2 hv2 r1 (fun p hp => hh p (List.mem_append_left _ hp)) (fun k hk' => hk k (by rw [keys_append]; exact List.mem_append_left _ hk'))]
                exact fun c ad2 hn => ⟨c, hn, fun _ _ => rfl⟩
              | snd =>
                obtain ⟨u1, u2⟩ := d5 w' c2' hc2 (fun k hk' => hk k (by rw [keys_append]; exact List.mem_append_right _ hk')) y q2 hv2 hc
                refine ⟨fun hf => ⟨trivial, u1 hf⟩, ?_⟩
                show Stays _ _ _ _ (nav w b ((c1 ++ c2).drop (sz a)) _ q2) (nav w' b ((c1 ++ (pre ++ c2' ++ post)).drop (sz a)) _ q2)
                rw [ed, ed]; exact u2
              | idx i => exact absurd hs2 (by simp [VStep])
        · intro h0
          obtain ⟨A1, A2, b', c, e, pre, post, d0, d1, d2, d3, d4⟩ := n5 (by simpa [lev] using h0)
          have hb' : b' ∈ keys h2 := by rw [n2, d0]; simp [keys]
          refine ⟨h1 ++ A1, A2, b', c, e, pre, post, by rw [d0]; simp, d1, d2, ?_, ?_⟩
          · intro w' Im' g y c2' h2' r
            exact ⟨c1, c2, h1, _, rfl, by simp, r1.grow g, d3 w' Im' g y c2' h2' r⟩
          · intro w' c2' hc2 hb hk y q2 hv2 hc
            have hcl : c2'.length = cs'.length := hc2.trans n3.len.symm
            cases q2 with
            | nil => exact ⟨trivial, fun c ad2 hn => ⟨_, hn, fun ht' => by simp [ctype, isHd] at ht'⟩⟩
            | cons s2 q2 =>
              obtain ⟨hs2, hv2⟩ := hv2
              cases s2 with
              | fst =>
                refine ⟨⟨trivial, hv2⟩, ?_⟩
                show Stays _ _ _ _ (nav w a ((c1 ++ c2).take (sz a)) _ q2) (nav w' a ((c1 ++ c2).take (sz a)) _ q2)
                rw [et, nav_frame (t := a) q2 hv2 r1 (fun p hp => hh p (List.mem_append_left _ hp)) (fun k hk' => hk k (by rw [keys_append]; exact List.mem_append_left _ hk') (fun e => hn12 _ hk' _ hb' e))]
                exact fun c ad2 hn => ⟨c, hn, fun _ _ => rfl⟩
              | snd =>
                obtain ⟨u1, u2⟩ := d4 w' c2' hc2 hb (fun k hk' => hk k (by rw [keys_append]; exact List.mem_append_right _ hk')) y q2 hv2 hc
                refine ⟨⟨trivial, u1⟩, ?_⟩
                show Stays _ _ _ _ (nav w b ((c1 ++ c2).drop (sz a)) _ q2) (nav w' b ((c1 ++ c2).drop (sz a)) _ q2)
                rw [ed]; exact u2
              | idx i => exact absurd hs2 (by simp [VStep])
      | idx i => exact absurd hs (by simp [VStep])
    | slc t =>
      cases s with
      | fst => exact absurd hs (by simp [VStep])
      | snd => exact absurd hs (by simp [VStep])
      | idx i =>
        obtain ⟨hi, me, rfl⟩ := hs
        have hi : i < List.length x := hi
        obtain ⟨b, o, c, e, cap, h', e1, e2, e3, e4, e5, r1⟩ := Rep.own_cons hr (by intro h0; rw [h0] at hi; simp at hi)
        subst e1; subst e2
        obtain ⟨pre0, c0, post0, hp, g0, hq, d1, d2, d3, d4, d5, d6⟩ := RepL.nth (n := sz t) (dflt t) (fun _ _ _ r => r.len) i hi r1
        subst d2
        have hhb : w.heap[b]? = some (.cells c e (0, 0)) := hh (b, .cells c e) (List.mem_cons_self ..)
        have hl0 : c0.length = sz t := d4.len
        have hv' : Valid t (List.getD x i (dflt t)) me q := hv
        rw [keys_cons, keys_append, keys_append] at hnd
        obtain ⟨hnb, hnd⟩ := List.nodup_cons.1 hnd
        obtain ⟨hn1, hn2, hn12⟩ := List.nodup_append.1 hnd
        obtain ⟨hn3, hn4, hn34⟩ := List.nodup_append.1 hn1
        have hg0 : ∀ k ∈ keys g0, k ≠ b := by intro k hk e; subst e; exact hnb (List.mem_append_left _ (List.mem_append_right _ hk))
        obtain ⟨cs', ad', A, g1, B, n1, n2, n3, n4, n5⟩ := ih (ad := some (b, o + i * sz t)) hv' d4 (fun p hp' => hh p (List.mem_cons_of_mem _ (List.mem_append_left _ (List.mem_append_right _ hp')))) hn4
        have eo : o ≤ c.size := by omega
        have et : (c.toList.drop (o + i * sz t)).take (sz t) = c0 := by
          rw [← List.drop_drop, d1, ← d3]; simp [← hl0]
        have ec : c.toList = c.toList.take o ++ (pre0 ++ c0 ++ post0) := by rw [← d1]; simp
        have el : (c.toList.take o).length = o := by rw [List.length_take]; simp; omega
        have hcell : ∀ j, j ≠ i → j < List.length x → ∃ cj gj, Rep w Im t me (List.getD x j (dflt t)) cj gj ∧ (∀ p ∈ gj, p ∈ hp ∨ p ∈ hq) ∧ (∀ c' : List Value, c'.length = sz t → ((pre0 ++ c' ++ post0).drop (j * sz t)).take (sz t) = cj) := d6
        generalize hP : c.toList.take o = P at ec el
        have hls : ∀ y : den (ctype (.slc t) (.idx i :: q)), List.length (α := den t) (cput (.slc t) x (.idx i :: q) y) = List.length (α := den t) x := fun y => List.length_set
        have hget : ∀ (y : den (ctype (.slc t) (.idx i :: q))) (j : Nat), vstep (.slc t) (cput (.slc t) x (.idx i :: q) y) (.idx j) = if j = i then cput t (List.getD x i (dflt t)) q y else List.getD x j (dflt t) := by
          intro y j
          exact getD_set (α := den t) x i j (dflt t) _ hi
        refine ⟨cs', ad', (b, .cells c e) :: hp ++ A, g1, B ++ hq, ?_, by rw [n2]; simp, n3, ?_, ?_⟩
        · show (match navStep w (.slc t) [.slice (some ⟨b, o, none⟩) (List.length x) cap] ad (.idx i) with | some p => nav w t p.1 p.2 q | none => none) = _
          simp only [navStep, hhb, et]
          exact n1
        · intro h0; simp [lev] at h0
        · intro _
          by_cases hq0 : lev q = 0
          · obtain ⟨pre, post, p1, p2, p3, p4, p5⟩ := n4 hq0
            have ec2 : c.toList = P ++ pre0 ++ pre ++ cs' ++ (post ++ post0) := by rw [ec, p1]; simp
            refine ⟨[], hp ++ A, b, c, e, P ++ pre0 ++ pre, post ++ post0, by simp, by rw [ec2], ?_, ?_, ?_⟩
            · rw [p2]; simp; omega
            · intro w' Im' g y c2' h2' r
              have r' := p4 w' Im' g y c2' h2' r
              have hlen := r'.len
              have rr := d5 (fun x cs h => Rep w' Im' t me x cs h) (fun _ _ _ r => r.grow g) _ _ _ r'
              have hs1 : c.size = (P ++ pre0 ++ pre ++ cs' ++ (post ++ post0)).length := by rw [← ec2]; simp
              refine .inr ⟨b, o, (P ++ pre0 ++ pre ++ c2' ++ (post ++ post0)).toArray, e, cap, hp ++ (A ++ h2' ++ B) ++ hq, ?_, by simp, ?_, e4, ?_, ?_⟩
              · exact congrArg (fun n => [Value.slice (some ⟨b, o, none⟩) n cap]) (hls y).symm
              · exact Nat.le_trans (Nat.le_of_eq (hls y)) e3
              · rw [hs1] at e5
                rw [p1] at hl0
                simp at e5 hlen hl0 ⊢
                omega
              · have ed : ((P ++ pre0 ++ pre ++ c2' ++ (post ++ post0)).toArray.toList).drop o = pre0 ++ (pre ++ c2' ++ post) ++ post0 := by
                  rw [← el]; simp
                rw [ed]; exact rr
            · intro w' c2' hc2 hb hk y q2 hv2 hc
              have hcl : c2'.length = cs'.length := hc2.trans n3.len.symm
              have hn' : (pre ++ c2' ++ post).length = sz t := by
                rw [p1] at hl0; rw [← hl0]; simp [hcl]
              cases q2 with
              | nil => exact ⟨trivial, fun c ad2 hn => ⟨c, hn, fun _ _ => rfl⟩⟩
              | cons s2 q2 =>
                obtain ⟨hs2, hv2⟩ := hv2
                cases s2 with
                | fst => exact absurd hs2 (by simp [VStep])
                | snd => exact absurd hs2 (by simp [VStep])
                | idx j =>
                  obtain ⟨hj, _⟩ := hs2
                  have hj : j < List.length x := hj
                  have hc' : flat (ctype t q) = true ∨ lev q2 = 0 := hc.imp id (fun h => by simp [lev] at h; omega)
                  have ed : ((P ++ pre0 ++ pre ++ c2' ++ (post ++ post0)).toArray.toList).drop (o + j * sz t) = (pre0 ++ (pre ++ c2' ++ post) ++ post0).drop (j * sz t) := by
                    rw [← List.drop_drop, ← el]; simp
                  by_cases hji : j = i
                  · subst hji
                    obtain ⟨u1, u2⟩ := p5 w' c2' hc2 (fun k hk' => hk k (by simp only [keys_cons, keys_append, List.mem_cons, List.mem_append]; exact .inr (.inl (.inr hk'))) (hg0 k hk')) y q2 hv2 hc'
                    refine ⟨⟨⟨Nat.lt_of_lt_of_le hj (Nat.le_of_eq (hls y).symm), me, rfl⟩, ?_⟩, ?_⟩
                    · show Valid t (vstep (.slc t) (cput (.slc t) x (.idx j :: q) y) (.idx j)) me q2
                      rw [hget, if_pos rfl]
                      rcases hc' with hf | h0
                      · exact u1 hf
                      · exact valid0 q2 h0 hv2
                    · show Stays _ _ _ _ (match navStep w (.slc t) [.slice (some ⟨b, o, none⟩) (List.length x) cap] ad (.idx j) with | some p => nav w t p.1 p.2 q2 | none => none)
                        (match navStep w' (.slc t) [.slice (some ⟨b, o, none⟩) (List.length x) cap] ad (.idx j) with | some p => nav w' t p.1 p.2 q2 | none => none)
                      have et' : (List.drop (j * sz t) (pre0 ++ (pre ++ c2' ++ post) ++ post0)).take (sz t) = pre ++ c2' ++ post := by
                        generalize pre ++ c2' ++ post = M at hn'
                        rw [← d3, ← hn']; simp
                      simp only [navStep, hhb, hb, et, ed, et']
                      intro cc ad2 hn
                      obtain ⟨c'', v1, v2⟩ := u2 cc ad2 hn
                      exact ⟨c'', v1, fun ht hs => v2 ht (hs.imp id (fun h => by simp [lev, hq0] at h))⟩
                  · obtain ⟨cj, gj, f1, f2, f3⟩ := hcell j hji hj
                    have hkj : ∀ k ∈ keys gj, k ∈ keys hp ∨ k ∈ keys hq := by
                      intro k hk'; obtain ⟨p, hp', e⟩ := keys_mem.1 hk'
                      exact (f2 p hp').imp (fun h => keys_mem.2 ⟨p, h, e⟩) (fun h => keys_mem.2 ⟨p, h, e⟩)
                    have hkb : ∀ k ∈ keys gj, k ≠ b := by
                      intro k hk' e; subst e
                      rcases hkj _ hk' with h | h
                      · exact hnb (List.mem_append_left _ (List.mem_append_left _ h))
                      · exact hnb (List.mem_append_right _ h)
                    refine ⟨⟨⟨Nat.lt_of_lt_of_le hj (Nat.le_of_eq (hls y).symm), me, rfl⟩, ?_⟩, ?_⟩
                    · show Valid t (vstep (.slc t) (cput (.slc t) x (.idx i :: q) y) (.idx j)) me q2
                      rw [hget, if_neg hji]; exact hv2
                    · show Stays _ _ _ _ (match navStep w (.slc t) [.slice (some ⟨b, o, none⟩) (List.length x) cap] ad (.idx j) with | some p => nav w t p.1 p.2 q2 | none => none)
                        (match navStep w' (.slc t) [.slice (some ⟨b, o, none⟩) (List.length x) cap] ad (.idx j) with | some p => nav w' t p.1 p.2 q2 | none => none)
                      have et0 : (c.toList.drop (o + j * sz t)).take (sz t) = cj := by
                        rw [← List.drop_drop, d1]; exact f3 c0 hl0
                      simp only [navStep, hhb, hb, et0, ed, f3 _ hn']
                      rw [nav_frame q2 (t := t) hv2 f1 (fun p hp' => hh p (List.mem_cons_of_mem _ ((f2 p hp').elim (fun h => List.mem_append_left _ (List.mem_append_left _ h)) (fun h => List.mem_append_right _ h))))
                        (fun k hk' => hk k (by simp only [keys_cons, keys_append, List.mem_cons, List.mem_append]; exact .inr ((hkj k hk').elim (fun h => .inl (.inl h)) .inr)) (hkb k hk'))]
                      exact fun c ad2 hn => ⟨c, hn, fun _ _ => rfl⟩
          · obtain ⟨A1, A2, b', c', e', pre, post, p0, p1, p2, p3, p4⟩ := n5 hq0
            have hb' : b' ∈ keys g0 := by rw [n2, p0]; simp [keys]
            refine ⟨(b, .cells c e) :: hp ++ A1, A2, b', c', e', pre, post, by rw [p0]; simp, p1, p2, ?_, ?_⟩
            · intro w' Im' g y c2' h2' r
              have r' := p3 w' Im' g y c2' h2' r
              have rr := d5 (fun x cs h => Rep w' Im' t me x cs h) (fun _ _ _ r => r.grow g) _ _ _ r'
              refine .inr ⟨b, o, c, e, cap, hp ++ (A1 ++ (b', .cells (pre ++ c2' ++ post).toArray e') :: A2 ++ h2' ++ B) ++ hq, ?_, by simp, ?_, e4, e5, ?_⟩
              · exact congrArg (fun n => [Value.slice (some ⟨b, o, none⟩) n cap]) (hls y).symm
              · exact Nat.le_trans (Nat.le_of_eq (hls y)) e3
              · rw [d1]; exact rr
            · intro w' c2' hc2 hb hk y q2 hv2 hc
              have hcl : c2'.length = cs'.length := hc2.trans n3.len.symm
              cases q2 with
              | nil => exact ⟨trivial, fun c ad2 hn => ⟨c, hn, fun _ _ => rfl⟩⟩
              | cons s2 q2 =>
                obtain ⟨hs2, hv2⟩ := hv2
                cases s2 with
                | fst => exact absurd hs2 (by simp [VStep])
                | snd => exact absurd hs2 (by simp [VStep])
                | idx j =>
                  obtain ⟨hj, _⟩ := hs2
                  have hj : j < List.length x := hj
                  have hc' : flat (ctype t q) = true ∨ lev q2 ≤ lev q := hc.imp id (fun h => by simp [lev] at h; omega)
                  have hbb : w'.heap[b]? = some (.cells c e (0, 0)) := (hk b (by simp [keys]) (fun e => hg0 _ hb' e.symm)).trans hhb
                  by_cases hji : j = i
                  · subst hji
                    obtain ⟨u1, u2⟩ := p4 w' c2' hc2 hb (fun k hk' hne => hk k (by simp only [keys_cons, keys_append, List.mem_cons, List.mem_append]; exact .inr (.inl (.inr hk'))) hne) y q2 hv2 hc'
                    refine ⟨⟨⟨Nat.lt_of_lt_of_le hj (Nat.le_of_eq (hls y).symm), me, rfl⟩, ?_⟩, ?_⟩
                    · show Valid t (vstep (.slc t) (cput (.slc t) x (.idx j :: q) y) (.idx j)) me q2
                      rw [hget, if_pos rfl]; exact u1
                    · show Stays _ _ _ _ (match navStep w (.slc t) [.slice (some ⟨b, o, none⟩) (List.length x) cap] ad (.idx j) with | some p => nav w t p.1 p.2 q2 | none => none)
                        (match navStep w' (.slc t) [.slice (some ⟨b, o, none⟩) (List.length x) cap] ad (.idx j) with | some p => nav w' t p.1 p.2 q2 | none => none)
                      simp only [navStep, hhb, hbb, et]
                      intro cc ad2 hn
                      obtain ⟨c'', v1, v2⟩ := u2 cc ad2 hn
                      exact ⟨c'', v1, fun ht hs => v2 ht (hs.imp id (fun h => by simp [lev] at h; omega))⟩
                  · obtain ⟨cj, gj, f1, f2, f3⟩ := hcell j hji hj
                    have hkj : ∀ k ∈ keys gj, k ∈ keys hp ∨ k ∈ keys hq := by
                      intro k hk'; obtain ⟨p, hp', e⟩ := keys_mem.1 hk'
                      exact (f2 p hp').imp (fun h => keys_mem.2 ⟨p, h, e⟩) (fun h => keys_mem.2 ⟨p, h, e⟩)
                    have hkb : ∀ k ∈ keys gj, k ≠ b' := by
                      intro k hk' e; subst e
                      rcases hkj _ hk' with h | h
                      · exact hn34 _ h _ hb' rfl
                      · exact hn12 _ (List.mem_append_right _ hb') _ h rfl
                    refine ⟨⟨⟨Nat.lt_of_lt_of_le hj (Nat.le_of_eq (hls y).symm), me, rfl⟩, ?_⟩, ?_⟩
                    · show Valid t (vstep (.slc t) (cput (.slc t) x (.idx i :: q) y) (.idx j)) me q2
                      rw [hget, if_neg hji]; exact hv2
                    · show Stays _ _ _ _ (match navStep w (.slc t) [.slice (some ⟨b, o, none⟩) (List.length x) cap] ad (.idx j) with | some p => nav w t p.1 p.2 q2 | none => none)
                        (match navStep w' (.slc t) [.slice (some ⟨b, o, none⟩) (List.length x) cap] ad (.idx j) with | some p => nav w' t p.1 p.2 q2 | none => none)
                      have et0 : (c.toList.drop (o + j * sz t)).take (sz t) = cj := by
                        rw [← List.drop_drop, d1]; exact f3 c0 hl0
                      simp only [navStep, hhb, hbb, et0]
                      rw [nav_frame q2 (t := t) hv2 f1 (fun p hp' => hh p (List.mem_cons_of_mem _ ((f2 p hp').elim (fun h => List.mem_append_left _ (List.mem_append_left _ h)) (fun h => List.mem_append_right _ h))))
                        (fun k hk' => hk k (by simp only [keys_cons, keys_append, List.mem_cons, List.mem_append]; exact .inr ((hkj k hk').elim (fun h => .inl (.inl h)) .inr)) (hkb k hk'))]
                      exact fun c ad2 hn => ⟨c, hn, fun _ _ => rfl⟩
    | int k => cases s <;> exact absurd hs (by simp [VStep])
    | bool => cases s <;> exact absurd hs (by simp [VStep])
    | str => cases s <;> exact absurd hs (by simp [VStep])
    | raw => cases s <;> exact absurd hs (by simp [VStep])
    | unit => cases s <;> exact absurd hs (by simp [VStep])
    | mp k v => cases s <;> exact absurd hs (by simp [VStep])
end Go.Proofs.YtgdaiifhedpffaaDoor.V
set_option linter.unusedVariables false
set_option linter.unusedSimpArgs false
namespace Go.Proofs.YtgdaiifhedpffaaDoor.V
open Go
theorem sset_length : ∀ (l : List SV) (i : Nat) (s : SV), (sset l i s).length = l.length
  | [], _, _ => rfl
  | _ :: _, 0, _ => rfl
  | _ :: l, n + 1, s => by simp [sset, sset_length l n s]
theorem sget_sset : ∀ (l : List SV) (i n : Nat) (s : SV), sget (sset l i s) n = if n = i ∧ i < l.length then s else sget l n
  | [], i, n, s => by simp [sset, sget]
  | a :: l, 0, 0, s => by simp [sset, sget]
  | a :: l, 0, n + 1, s => by simp [sset, sget]
  | a :: l, i + 1, 0, s => by simp [sset, sget]
  | a :: l, i + 1, n + 1, s => by simp [sset, sget, sget_sset l i n s]
theorem sget_out : ∀ (l : List SV) (n : Nat), l.length ≤ n → sget l n = .undef
  | [], _, _ => rfl
  | a :: l, 0, h => by simp at h
  | a :: l, n + 1, h => by simpa [sget] using sget_out l n (by simpa using h)
theorem sget_map (p : Bool → Nat → Path → Bool) : ∀ (l : List SV) (n : Nat), sget (l.map (forget p)) n = forget p (sget l n)
  | [], n => by simp [sget, forget]
  | a :: l, 0 => by simp [sget]
  | a :: l, n + 1 => by simpa [sget] using sget_map p l n
section
variable {G : Gl} {st : St} {vs : Array Value} {w : World} {Im : Nat → Prop} {R : Real} {hand : Frag}
theorem SVV.ofAny (v : Value) : SVV w Im R .undef v := .inl rfl
theorem SVV.ofCells {s : SV} {cs : List Value} (h : SVX w Im R s false cs) (hs : isAgg s = true) : SVV w Im R s (.agg cs.toArray) := .inr (.inr ⟨cs, by rw [if_pos hs], h⟩)
theorem SVV.ofCell {s : SV} {v : Value} (h : SVX w Im R s false [v]) (hs : isAgg s = false) : SVV w Im R s v := .inr (.inr ⟨[v], by rw [if_neg (by simp [hs])], h⟩)
theorem SVV.cells {s : SV} {v : Value} (h : SVV w Im R s v) (h1 : s ≠ .undef) (h2 : s ≠ .tnil) (h3 : ∀ a b, s ≠ .tcons a b) : ∃ cs, (if isAgg s = true then v = .agg cs.toArray else cs = [v]) ∧ SVX w Im R s false cs := by
  rcases h with h | ⟨vs, _, _, h⟩ | h
  · exact absurd h h1
  · rcases h with h | ⟨a, b, h⟩
    · exact absurd h h2
    · exact absurd h (h3 a b)
  · exact h
theorem SVV.cell {s : SV} {v : Value} (h : SVV w Im R s v) (h1 : s ≠ .undef) (h2 : s ≠ .tnil) (h3 : ∀ a b, s ≠ .tcons a b) (h4 : isAgg s = false) : SVX w Im R s false [v] := by
  obtain ⟨cs, e, h⟩ := h.cells h1 h2 h3
  rw [if_neg (by simp [h4])] at e
  subst e; exact h
theorem SVV.int {k : IntKind} {n : Int} {v : Value} (h : SVV w Im R (.con (.int k) n) v) : v = .int k n := by
  have := h.cell (by simp) (by simp) (by simp) rfl
  simpa [SVX, Rep] using this
theorem SVV.bool {b : Bool} {v : Value} (h : SVV w Im R (.con .bool b) v) : v = .bool b := by
  have := h.cell (by simp) (by simp) (by simp) rfl
  simpa [SVX, Rep] using this
theorem SVV.str {s : ByteArray} {v : Value} (h : SVV w Im R (.con .str s) v) : v = .string s := by
  have := h.cell (by simp) (by simp) (by simp) rfl
  simpa [SVX, Rep] using this
theorem SVV.ofInt (k : IntKind) (n : Int) : SVV w Im R (.con (.int k) n) (.int k n) := .ofCell ⟨rfl, rfl⟩ rfl
theorem SVV.ofBool (b : Bool) : SVV w Im R (.con .bool b) (.bool b) := .ofCell ⟨rfl, rfl⟩ rfl
theorem SVV.ofStr (s : ByteArray) : SVV w Im R (.con .str s) (.string s) := .ofCell ⟨rfl, rfl⟩ rfl
theorem SVV.raw {u v : Value} (h : SVV w Im R (.raw u) v) : v = u := by
  obtain ⟨cs, e, h⟩ := h.cells (by simp) (by simp) (by simp)
  simp only [SVX] at h
  subst h
  cases u <;> simp_all [isAgg, Value.cells]
theorem SVV.ofRaw (v : Value) : SVV w Im R (.raw v) v := by
  refine .inr (.inr ⟨v.cells.toList, ?_, rfl⟩)
  cases v <;> simp [isAgg, Value.cells]
theorem SVV.tnil_iff {v : Value} (h : SVV w Im R .tnil v) : v = Go.undef := by
  rcases h with h | ⟨vs, e, h, _⟩ | ⟨cs, _, h⟩
  · cases h
  · simp only [SVX, true_and] at h
    rw [e]; simp [Go.undef, Array.toList_eq_nil_iff] at h ⊢; exact h
  · simp [SVX] at h
theorem SVV.ofUndef : SVV w Im R .tnil Go.undef := .inr (.inl ⟨#[], rfl, ⟨rfl, rfl⟩, .inl rfl⟩)
theorem ofConst_ok (v : Value) : SVV w Im R (ofConst v) v := by
  unfold ofConst
  split
  · exact .ofInt _ _
  · exact .ofBool _
  · exact .ofStr _
  · exact .ofRaw _
theorem Inv.ev {a : Act} (h : Inv G st a.tmps w Im R hand) (x : Operand) : SVV w Im R (st.ev x) (a.eval x) := by
  cases x with
  | tmp t => exact h.slots t
  | const v => exact ofConst_ok v
  | global g => exact .inl rfl
  | func f => exact .ofCell ⟨#[], rfl, by simp [SVX]⟩ rfl
theorem getD_setIfInBounds (vs : Array Value) (i n : Nat) (v d : Value) : (vs.setIfInBounds i v).getD n d = if n = i ∧ i < vs.size then v else vs.getD n d := by
  simp only [Array.getD_eq_getD_getElem?, Array.getElem?_setIfInBounds]
  by_cases h : i = n
  · subst h
    by_cases h2 : i < vs.size
    · simp [h2]
    · simp [h2]
  · simp [h, Ne.symm h]
theorem Inv.put {a : Act} (h : Inv G st a.tmps w Im R hand) (d : Option Tmp) {s : SV} {v : Value} (hs : SVV w Im R s v) : Inv G (st.set d s) (a.put d v).tmps w Im R hand := by
  cases d with
  | none => exact h
  | some i =>
    refine ⟨h.box, h.rep, h.sep, fun n => ?_, ?_, h.keep, h.row⟩
    · show SVV w Im R (sget (sset st.slots i s) n) ((a.tmps.setIfInBounds i v).getD n Go.undef)
      rw [sget_sset, getD_setIfInBounds, h.len]
      split
      · exact hs
      · exact h.slots n
    · show (sset st.slots i s).length = (a.tmps.setIfInBounds i v).size
      rw [sset_length, Array.size_setIfInBounds]; exact h.len
end
def Ok (G : Gl) (I0 : Nat → Prop) (st : St) (a : Act) (w : World) : Prop :=
  a.defers = [] ∧ ∃ Im R, (∀ b, I0 b → Im b) ∧ Inv G st a.tmps w Im R []
abbrev Post (G : Gl) (I0 : Nat → Prop) {Q : Type} (K : St → Option Q) (r : Q) : Act → World → Prop := fun a w => ∃ st, K st = some r ∧ Ok G I0 st a w
theorem put_defers (a : Act) (d : Option Tmp) (v : Value) : (a.put d v).defers = a.defers := by cases d <;> rfl
section
variable {P : Program} {G : Gl} {I0 : Nat → Prop} {st : St} {a : Act} {w : World} {o : Oper} {T : Type} {K : St → Option T} {r : T} {Q : Exit → Act → World → Prop}
theorem wp_value {s : SV} {v : Value} {Im : Nat → Prop} {R : Real} (hrun : (execOp a.eval o).run P w = .ok (.value v) w) (hd : a.defers = []) (hI : ∀ b, I0 b → Im b) (h : Inv G st a.tmps w Im R []) (hs : SVV w Im R s v)
    (hK : K (st.set o.dst s) = some r) : o.wp P a w (Post G I0 K r) Q := by
  unfold Oper.wp
  rw [hrun]
  exact ⟨_, hK, by rw [put_defers]; exact hd, Im, R, hI, h.put o.dst hs⟩
end
end Go.Proofs.YtgdaiifhedpffaaDoor.V
set_option linter.unusedVariables false
set_option linter.unusedSimpArgs false
namespace Go.Proofs.YtgdaiifhedpffaaDoor.V
open Go
section
variable {P : Program} {w : World} {Im : Nat → Prop} {R : Real} {T : Type} {r : T}
theorem asInt_some {s : SV} {K : IntKind → Int → Option T} (h : asInt s K = some r) : ∃ k n, s = .con (.int k) n ∧ K k n = some r := by
  cases s with
  | con t x => cases t with
    | int k => exact ⟨k, x, rfl, h⟩
    | _ => simp [asInt] at h
  | _ => simp [asInt] at h
theorem asBool_some {s : SV} {K : Bool → Option T} (h : asBool s K = some r) : ∃ b, s = .con .bool b ∧ K b = some r := by
  cases s with
  | con t x => cases t with
    | bool => exact ⟨x, rfl, h⟩
    | _ => simp [asBool] at h
  | _ => simp [asBool] at h
theorem asStr_some {s : SV} {K : ByteArray → Option T} (h : asStr s K = some r) : ∃ b, s = .con .str b ∧ K b = some r := by
  cases s with
  | con t x => cases t with
    | str => exact ⟨x, rfl, h⟩
    | _ => simp [asStr] at h
  | _ => simp [asStr] at h
theorem run_eqGuard_int (op : BinOp) (t : TypeId) (x y : Operand) (k j : IntKind) (a b : Int) : (eqGuard op t x y (.int k a) (.int j b)).run P w = .ok () w := by
  unfold eqGuard; cases op <;> simp
theorem run_eqGuard_str (op : BinOp) (t : TypeId) (x y : Operand) (a b : ByteArray) : (eqGuard op t x y (.string a) (.string b)).run P w = .ok () w := by
  unfold eqGuard; cases op <;> simp
theorem run_eqGuard_bool (op : BinOp) (t : TypeId) (x y : Operand) (a b : Bool) : (eqGuard op t x y (.bool a) (.bool b)).run P w = .ok () w := by
  unfold eqGuard; cases op <;> simp
theorem bitop_run (k : IntKind) (a b : Int) (op : BinOp) (h : op = .and ∨ op = .or ∨ op = .xor ∨ op = .andNot) : (Op.intBits op k a b).run P w = .ok (.int k (bitop k op a b)) w := by
  rcases h with rfl | rfl | rfl | rfl <;> simp [Op.intBits, bitop]
theorem run_ar (k : IntKind) (a b : Int) (ty : TypeId) : (binOp .add ty (.int k a) (.int k b)).run P w = .ok (.int k (k.wrap (a + b))) w := by simp [binOp, Op.intArith]
theorem run_su (k : IntKind) (a b : Int) (ty : TypeId) : (binOp .sub ty (.int k a) (.int k b)).run P w = .ok (.int k (k.wrap (a - b))) w := by simp [binOp, Op.intArith]
theorem run_mu (k : IntKind) (a b : Int) (ty : TypeId) : (binOp .mul ty (.int k a) (.int k b)).run P w = .ok (.int k (k.wrap (a * b))) w := by simp [binOp, Op.intArith]
theorem run_quo (k : IntKind) (a b : Int) (ty : TypeId) (h : ¬ b = 0) : (binOp .quo ty (.int k a) (.int k b)).run P w = .ok (.int k (k.wrap (Int.tdiv a b))) w := by simp [binOp, Op.intDiv, h]
theorem run_rem (k : IntKind) (a b : Int) (ty : TypeId) (h : ¬ b = 0) : (binOp .rem ty (.int k a) (.int k b)).run P w = .ok (.int k (Int.tmod a b)) w := by simp [binOp, Op.intDiv, h]
theorem run_shl (k : IntKind) (a : Int) (j : IntKind) (b : Int) (ty : TypeId) (h : ¬ b < 0) : (binOp .shl ty (.int k a) (.int j b)).run P w = .ok (.int k (k.wrap (a * 2 ^ (min (Int.toNat b) k.bits)))) w := by simp [binOp, Op.shift, h]
theorem run_shr (k : IntKind) (a : Int) (j : IntKind) (b : Int) (ty : TypeId) (h : ¬ b < 0) : (binOp .shr ty (.int k a) (.int j b)).run P w = .ok (.int k (Int.fdiv a (2 ^ (min (Int.toNat b) k.bits)))) w := by simp [binOp, Op.shift, h]
theorem run_bit (k : IntKind) (a b : Int) (ty : TypeId) (op : BinOp) (h : op = .and ∨ op = .or ∨ op = .xor ∨ op = .andNot) : (binOp op ty (.int k a) (.int k b)).run P w = .ok (.int k (bitop k op a b)) w := by
  have := bitop_run (P := P) (w := w) k a b op h
  rcases h with rfl | rfl | rfl | rfl <;> simpa [binOp] using this
def cmpOf (op : BinOp) (a b : Int) : Option Bool :=
  match op with
  | .eql => some (a == b)
  | .neq => some (a != b)
  | .lss => some (decide (a < b))
  | .leq => some (decide (a ≤ b))
  | .gtr => some (decide (a > b))
  | .geq => some (decide (a ≥ b))
  | _ => none
theorem run_cmp (k : IntKind) (a b : Int) (ty : TypeId) (op : BinOp) (x : Bool) (h : cmpOf op a b = some x) : (binOp op ty (.int k a) (.int k b)).run P w = .ok (.bool x) w := by
  cases op <;> simp only [cmpOf, Option.some.injEq, reduceCtorEq] at h <;> subst h <;> simp [binOp, Op.intCmp]
theorem binOp_strs (op : BinOp) (ty : TypeId) (a b : ByteArray) : binOp op ty (.string a) (.string b) = Op.stringOp op a b := by cases op <;> rfl
theorem run_strs (op : BinOp) (a b : ByteArray) (ty : TypeId) (x : Bool) (h : (match op with | .eql => some (strEq a b) | .neq => some (!strEq a b) | .lss => some (strLt a b) | .leq => some (strLt a b || strEq a b) | .gtr => some (!(strLt a b || strEq a b)) | .geq => some (!strLt a b) | _ => none) = some x) :
    (binOp op ty (.string a) (.string b)).run P w = .ok (.bool x) w := by
  rw [binOp_strs]
  cases op <;> simp only [Option.some.injEq, reduceCtorEq] at h <;> subst h <;> rfl
theorem run_equal_bool {ty : TypeId} (hu : P.underlying ty = some .bool) (a b : Bool) : (Op.equal ty (.bool a) (.bool b)).run P w = .ok (a == b) w := by
  unfold Op.equal Op.maxDepth
  rw [show (10000 : Nat) = 9999 + 1 from rfl, Op.equalIn]
  simp only [Sem.run_bind, run_underlying hu, Result.andThen_ok]
  rfl
theorem run_beq {ty : TypeId} (hu : P.underlying ty = some .bool) (a b : Bool) : (binOp .eql ty (.bool a) (.bool b)).run P w = .ok (.bool (a == b)) w := by
  show ((do pure (.bool (← Op.equal ty (.bool a) (.bool b))) : Sem Value)).run P w = _
  simp only [Sem.run_bind, run_equal_bool hu, Result.andThen_ok]; rfl
theorem run_bne {ty : TypeId} (hu : P.underlying ty = some .bool) (a b : Bool) : (binOp .neq ty (.bool a) (.bool b)).run P w = .ok (.bool (!(a == b))) w := by
  show ((do pure (.bool (!(← Op.equal ty (.bool a) (.bool b)))) : Sem Value)).run P w = _
  simp only [Sem.run_bind, run_equal_bool hu, Result.andThen_ok]; rfl
theorem run_sadd (ty : TypeId) (a b : ByteArray) (h : a.size + b.size ≤ 9223372036854775807) : (binOp .add ty (.string a) (.string b)).run P w = .ok (.string (a ++ b)) w := by
  rw [binOp_strs]
  have : ¬ (((a.size + b.size : Nat) : Int) > IntKind.i64.max) := by
    have : IntKind.i64.max = 9223372036854775807 := rfl
    omega
  simp only [Op.stringOp, if_neg this]; rfl
theorem bin_some {op : BinOp} {s t : SV} {K : SV → Option T} {u v : Value} (h : binS op s t K = some r) (hs : SVV w Im R s u) (ht : SVV w Im R t v) (ty : TypeId) (x y : Operand)
    (hbool : ∀ a b, s = .con .bool a → t = .con .bool b → P.underlying ty = some .bool) :
    ∃ s' z, K s' = some r ∧ (do eqGuard op ty x y u v; binOp op ty u v : Sem Value).run P w = .ok z w ∧ SVV w Im R s' z := by
  unfold binS at h
  split at h
  · rename_i k a j b
    have e1 := hs.int; have e2 := ht.int
    subst e1; subst e2
    rw [Sem.run_bind, run_eqGuard_int]
    simp only [Result.andThen_ok]
    have hi := SVV.ofInt (w := w) (Im := Im) (R := R)
    have hb := SVV.ofBool (w := w) (Im := Im) (R := R)
    cases op <;> dsimp only at h
    all_goals (split at h)
    all_goals first
      | (cases h; done)
      | (rename_i hk; subst hk; exact ⟨_, _, h, run_ar k a b _, hi _ _⟩)
      | (rename_i hk; subst hk; exact ⟨_, _, h, run_su k a b _, hi _ _⟩)
      | (rename_i hk; subst hk; exact ⟨_, _, h, run_mu k a b _, hi _ _⟩)
      | (rename_i hk; subst hk; exact ⟨_, _, h, run_cmp k a b _ _ _ rfl, hb _⟩)
      | (rename_i hk; subst hk; exact ⟨_, _, h, run_bit k a b _ _ (by simp), hi _ _⟩)
      | (rename_i hk; exact ⟨_, _, h, run_shl k a j b _ hk, hi _ _⟩)
      | (rename_i hk; exact ⟨_, _, h, run_shr k a j b _ hk, hi _ _⟩)
      | (rename_i hk; subst hk; split at h <;> first | (cases h; done) | (rename_i hz; exact ⟨_, _, h, run_quo k a b _ hz, hi _ _⟩) | (rename_i hz; exact ⟨_, _, h, run_rem k a b _ hz, hi _ _⟩))
  · rename_i a b
    have e1 := hs.str; have e2 := ht.str
    subst e1; subst e2
    rw [Sem.run_bind, run_eqGuard_str]
    simp only [Result.andThen_ok]
    cases op <;> dsimp only at h <;> (try (cases h; done))
    case add =>
      split at h
      · rename_i hl
        exact ⟨_, _, h, run_sadd _ _ _ hl, .ofStr _⟩
      · cases h
    all_goals exact ⟨_, _, h, run_strs _ a b _ _ rfl, .ofBool _⟩
  · rename_i a b
    have e1 := hs.bool; have e2 := ht.bool
    subst e1; subst e2
    rw [Sem.run_bind, run_eqGuard_bool]
    simp only [Result.andThen_ok]
    have hu := hbool _ _ rfl rfl
    cases op <;> dsimp only at h <;> (try (cases h; done))
    · exact ⟨_, _, h, run_beq hu a b, .ofBool _⟩
    · exact ⟨_, _, h, run_bne hu a b, .ofBool _⟩
  · cases h
end
end Go.Proofs.YtgdaiifhedpffaaDoor.V
set_option linter.unusedVariables false
set_option linter.unusedSimpArgs false
namespace Go.Proofs.YtgdaiifhedpffaaDoor.V
open Go
def zcells : Ty → List Value
  | .int k => [.int k 0]
  | .bool => [.bool false]
  | .str => [.string .empty]
  | .raw => [.nilIface]
  | .unit => []
  | .pair a b => zcells a ++ zcells b
  | .slc _ => [.slice none 0 0]
  | .mp _ _ => [.map none]
def foff : Ty → Nat → Nat
  | .pair a b, n + 1 => sz a + foff b n
  | _, _ => 0
def structTy : Ty → Bool
  | .unit => true
  | .pair _ b => structTy b
  | _ => false
structure InfoOk (P : Program) (t : TypeId) (te : TE) (i : TypeInfo) : Prop where
  info : P.info? t = some i
  size : i.size = sz te.ty
  bytes : i.bytes = te.bytes
  zero : te.z = true → ∃ z, i.zero = some z ∧ z.cells.toList = zcells te.ty
  zero1 : te.z = true → oneT te.ty = true → ∃ z, i.zero = some z ∧ zcells te.ty = [z]
def UndOk (P : Program) (E : Env) (t : TypeId) (te : TE) : Prop :=
  match te.d with
  | .int k => P.underlying t = some (.int k) ∧ te.ty = .int k
  | .bool => P.underlying t = some .bool ∧ te.ty = .bool
  | .str => P.underlying t = some .string ∧ te.ty = .str
  | .slc e => P.underlying t = some (.slice e) ∧ ∃ ee, E.get e = some ee ∧ te.ty = .slc ee.ty
  | .struct fs => ∃ fields, P.underlying t = some (.struct fields) ∧ structTy te.ty = true ∧ fields.size = (fieldTys te.ty).length ∧
      ∀ j f, fields[j]? = some f → f.offset = foff te.ty j ∧ ∃ fe, E.get f.type = some fe ∧ (fieldTys te.ty)[j]? = some fe.ty ∧ sz fe.ty ≠ 0
  | .arr e => ∃ n, P.underlying t = some (.array n e) ∧ structTy te.ty = true ∧ n = (fieldTys te.ty).length ∧ ∃ fe, E.get e = some fe ∧ sz fe.ty ≠ 0 ∧ ∀ j, j < n → (fieldTys te.ty)[j]? = some fe.ty ∧ foff te.ty j = j * sz fe.ty
  | .mp k v => P.underlying t = some (.map k v) ∧ ∃ ke ve, E.get k = some ke ∧ E.get v = some ve ∧ te.ty = .mp ke.ty ve.ty
  | .other => ∃ d, P.underlying t = some d ∧ d.isRow = false ∧ te.ty = .raw
def QOk (P : Program) (t : TypeId) (te : TE) : Prop := te.q = true → ∃ fields, P.underlying t = some (.struct fields) ∧ (∀ f ∈ fields.toList, f.name ≠ "_") ∧ P.stoodInHeld t = false ∧ P.eqGuardType P.depth t = false
def EnvOk (P : Program) (E : Env) : Prop := ∀ t te, E.get t = some te → (∃ i, InfoOk P t te i) ∧ UndOk P E t te ∧ QOk P t te
section
variable {P : Program} {G : Gl} {st : St} {vs : Array Value} {w : World} {Im : Nat → Prop} {R : Real} {hand : Frag} {T : Type} {r0 : T}
theorem Inv.real (h : Inv G st vs w Im R hand) {r : Nat} {b : Bx} (hb : bget st.boxes r = some b) : ∃ rb, R r = some (b, rb) := by
  have := h.box r
  rw [hb] at this
  cases hr : R r with
  | none => rw [hr] at this; cases this
  | some p => rw [hr] at this; obtain ⟨b', rb⟩ := p; simp at this; subst this; exact ⟨rb, rfl⟩
theorem fragOf_sub {b : Bx} {rb : RB} : ∀ p ∈ rb.h, p ∈ fragOf b rb := by
  intro p hp; unfold fragOf; split
  · exact List.mem_cons_of_mem _ hp
  · exact hp
theorem Inv.heapOK (h : Inv G st vs w Im R hand) {r : Nat} {b : Bx} {rb : RB} (hr : R r = some (b, rb)) : HeapOK w (fragOf b rb) := by
  intro p hp
  exact h.sep.heap (r + 1) p (by simp only [own, hr]; exact hp)
theorem Inv.nodup (h : Inv G st vs w Im R hand) {r : Nat} {b : Bx} {rb : RB} (hr : R r = some (b, rb)) : (keys (fragOf b rb)).Nodup := by
  have := h.sep.nod (r + 1)
  simpa only [own, hr] using this
theorem Inv.nodup' (h : Inv G st vs w Im R hand) {r : Nat} {b : Bx} {rb : RB} (hr : R r = some (b, rb)) : (keys rb.h).Nodup := by
  have := h.nodup hr
  unfold fragOf at this
  split at this
  · rw [keys_cons] at this; exact (List.nodup_cons.1 this).2
  · exact this
theorem Inv.at_ (h : Inv G st vs w Im R hand) {r : Nat} {b : Bx} {rb : RB} (hr : R r = some (b, rb)) {q : Path} (hv : Valid b.t b.x b.m q) :
    ∃ cs ad h1, nav w b.t rb.cs (locOf b rb) q = some (cs, ad) ∧ Rep w Im (ctype b.t q) (mget b.m q) (cget b.t b.x q) cs h1 ∧ (∀ p ∈ h1, p ∈ rb.h) := by
  obtain ⟨cs', ad', A, h1, B, n1, n2, n3, _⟩ := focus q (ad := locOf b rb) hv (h.rep r b rb hr) (fun p hp => h.heapOK hr p (fragOf_sub p hp)) (h.nodup' hr)
  exact ⟨cs', ad', h1, n1, n3, fun p hp => by rw [n2]; simp [hp]⟩
theorem Inv.ref (h : Inv G st vs w Im R hand) {r : Nat} {q : Path} {b : Bx} {v : Value} (hb : bget st.boxes r = some b) (hv : RefOK w R r q v) :
    ∃ h1 rb, R r = some (b, rb) ∧ Rep w Im (ctype b.t q) (mget b.m q) (cget b.t b.x q) [v] h1 ∧ (∀ p ∈ h1, p ∈ rb.h) := by
  obtain ⟨rb, hr⟩ := h.real hb
  obtain ⟨hval, _, ad, hn⟩ := hv b rb hr
  obtain ⟨cs, ad', h1, n1, n2, n3⟩ := h.at_ hr hval
  rw [hn] at n1
  simp only [Option.some.injEq, Prod.mk.injEq] at n1
  obtain ⟨rfl, rfl⟩ := n1
  exact ⟨h1, rb, hr, n2, n3⟩
theorem Rep.ownLen {w : World} {Im : Nat → Prop} {t : Ty} {m : Md} {xs : List (den t)} {v : Value} {h : Frag} (r : Rep w Im (.slc t) (.own m) xs [v] h) : ∃ A cap, v = .slice A xs.length cap ∧ xs.length ≤ cap := by
  rcases r with ⟨e0, ⟨A, e⟩, _⟩ | ⟨b, o, c, e, cap, h', e1, e2, e3, _⟩
  · subst e0; simp at e; exact ⟨A, 0, e, Nat.le_refl _⟩
  · simp at e1; exact ⟨_, cap, e1, e3⟩
theorem Rep.roLen {w : World} {Im : Nat → Prop} {t : Ty} {xs : List (den t)} {v : Value} {h : Frag} (r : Rep w Im (.slc t) .ro xs [v] h) : ∃ A cap, v = .slice A xs.length cap ∧ xs.length ≤ cap := by
  obtain ⟨_, A, cap, e, hc, _⟩ := r
  simp at e; exact ⟨A, cap, e, hc⟩
theorem rowOf_some {t : Ty} {x : den t} {m : Md} {cs : List Value} {h : Frag} {K : (t : Ty) → List (den t) → Md → Option T} (hk : rowOf t x m K = some r0) (hr : Rep w Im t m x cs h) :
    ∃ t' xs m', t = .slc t' ∧ m = .own m' ∧ Rep w Im (.slc t') (.own m') xs cs h ∧ (∀ i, i < List.length xs → VStep t x m (.idx i)) ∧ K t' xs m' = some r0 := by
  cases t <;> cases m <;> simp only [rowOf, reduceCtorEq] at hk
  exact ⟨_, _, _, rfl, rfl, hr, fun i hi => ⟨hi, _, rfl⟩, hk⟩
theorem len_some (h : Inv G st vs w Im R hand) {s : SV} {v : Value} {K : Int → Option T} (hk : lenS st.boxes s K = some r0) (hs : SVV w Im R s v) :
    ∃ n : Int, K n = some r0 ∧ ((strS s = true ∧ ∃ x : ByteArray, v = .string x ∧ n = x.size) ∨ (strS s = false ∧ ∃ (A : Option Addr) (k c : Nat), v = .slice A k c ∧ n = k)) := by
  unfold lenS at hk
  split at hk
  · have := hs.str; subst this; exact ⟨_, hk, .inl ⟨rfl, _, rfl, rfl⟩⟩
  · have := hs.cell (by simp) (by simp) (by simp) rfl
    obtain ⟨A, cap, e, _⟩ := Rep.roLen this
    exact ⟨_, hk, .inr ⟨rfl, A, _, cap, e, rfl⟩⟩
  · have := hs.raw; exact ⟨0, hk, .inr ⟨rfl, _, _, _, this, rfl⟩⟩
  · have := hs.cell (by simp) (by simp) (by simp) rfl
    obtain ⟨A, e⟩ := this; simp at e; exact ⟨0, hk, .inr ⟨rfl, A, 0, 0, e, rfl⟩⟩
  · rename_i r q
    split at hk
    · rename_i b hb
      obtain ⟨u, e, hr⟩ := hs.cell (by simp) (by simp) (by simp) rfl
      simp at e; subst e
      obtain ⟨h1, rb, _, n2, _⟩ := h.ref hb hr
      obtain ⟨t, xs, m, _, _, n3, _, hk⟩ := rowOf_some hk n2
      obtain ⟨A, cap, e, _⟩ := Rep.ownLen n3
      exact ⟨_, hk, .inr ⟨rfl, A, _, cap, e, rfl⟩⟩
    · cases hk
  · rename_i r q lo n
    split at hk
    · rename_i b hb
      obtain ⟨u, e, u2, hr, hh⟩ := hs.cell (by simp) (by simp) (by simp) rfl
      simp at e; subst e
      obtain ⟨rb, hrr⟩ := h.real hb
      obtain ⟨t, A, len, cap, A', cap', _, _, e2, _⟩ := hh b rb hrr
      exact ⟨_, hk, .inr ⟨rfl, A', n, cap', e2, rfl⟩⟩
    · cases hk
  · cases hk
end
theorem nav_append (w : World) : ∀ (q q' : Path) (t : Ty) (cs : List Value) (ad : Option (Nat × Nat)), nav w t cs ad (q ++ q') = (nav w t cs ad q).bind fun p => nav w (ctype t q) p.1 p.2 q'
  | [], q', t, cs, ad => rfl
  | s :: q, q', t, cs, ad => by
    show (match navStep w t cs ad s with | some p => nav w (tstep t s) p.1 p.2 (q ++ q') | none => none) = Option.bind (match navStep w t cs ad s with | some p => nav w (tstep t s) p.1 p.2 q | none => none) _
    cases navStep w t cs ad s with
    | none => rfl
    | some p => exact nav_append w q q' _ _ _
theorem Valid_append : ∀ (q q' : Path) {t : Ty} {x : den t} {m : Md}, Valid t x m (q ++ q') ↔ Valid t x m q ∧ Valid (ctype t q) (cget t x q) (mget m q) q'
  | [], q', t, x, m => by simp [Valid, ctype, cget, mget]
  | s :: q, q', t, x, m => by
    have := Valid_append q q' (t := tstep t s) (x := vstep t x s) (m := m.step s)
    constructor
    · rintro ⟨h1, h2⟩; exact ⟨⟨h1, (this.1 h2).1⟩, (this.1 h2).2⟩
    · rintro ⟨⟨h1, h2⟩, h3⟩; exact ⟨h1, this.2 ⟨h2, h3⟩⟩
theorem VStep_fst {t : Ty} (x : den t) (m : Md) (h : ∃ a b, t = .pair a b) : VStep t x m .fst := by obtain ⟨a, b, rfl⟩ := h; trivial
theorem VStep_snd {t : Ty} (x : den t) (m : Md) (h : ∃ a b, t = .pair a b) : VStep t x m .snd := by obtain ⟨a, b, rfl⟩ := h; trivial
theorem ctype_append : ∀ (q q' : Path) (t : Ty), ctype t (q ++ q') = ctype (ctype t q) q'
  | [], _, _ => rfl
  | s :: q, q', t => ctype_append q q' (tstep t s)
theorem lev_append : ∀ (q q' : Path), lev (q ++ q') = lev q + lev q'
  | [], q' => by simp [lev]
  | .fst :: q, q' => by simpa [lev] using lev_append q q'
  | .snd :: q, q' => by simpa [lev] using lev_append q q'
  | .idx _ :: q, q' => by simp [lev, lev_append q q']; omega
def pack (t : Ty) (cs : List Value) (v : Value) : Prop := if aggTy t = true then v = .agg cs.toArray else cs = [v]
theorem isAgg_con (t : Ty) (x : den t) : isAgg (.con t x) = aggTy t := by cases t <;> rfl
theorem isAgg_view (r : Nat) (t : Ty) (m : Md) (x : den t) (q : Path) (h : view r t m x q ≠ .undef) : isAgg (view r t m x q) = aggTy t := by
  cases t <;> (try rfl) <;> cases m <;> simp [view] at h ⊢ <;> rfl
section
variable {P : Program} {G : Gl} {st : St} {vs : Array Value} {w : World} {Im : Nat → Prop} {R : Real} {hand : Frag} {T : Type} {r0 : T} {E : Env}
theorem view_ok {r : Nat} {b : Bx} {rb : RB} (hr : R r = some (b, rb)) : ∀ {t : Ty} {m : Md} {x : den t} {cs : List Value} {h : Frag} {q : Path} {ad : Option (Nat × Nat)},
    Valid b.t b.x b.m q → nav w b.t rb.cs (locOf b rb) q = some (cs, ad) → ctype b.t q = t → Rep w Im t m x cs h → SVX w Im R (view r t m x q) false cs
  | .int _, _, _, _, _, _, _, _, _, _, h => ⟨h.1, rfl⟩
  | .bool, _, _, _, _, _, _, _, _, _, h => ⟨h.1, rfl⟩
  | .str, _, _, _, _, _, _, _, _, _, h => ⟨h.1, rfl⟩
  | .raw, _, _, _, _, _, _, _, _, _, h => ⟨h.1, h.2.1, rfl⟩
  | .unit, _, _, _, _, _, _, _, _, _, h => ⟨h.1, rfl⟩
  | .pair a b', m, x, _, _, q, ad, hv, hn, ht, ⟨c1, c2, h1, h2, e1, e2, r1, r2⟩ => by
    subst e1
    have hl := r1.len
    have hn1 : nav w b.t rb.cs (locOf b rb) (q ++ [.fst]) = some (c1, ad) := by
      rw [nav_append, hn, ht]; simp [nav, navStep, ← hl]
    have hn2 : nav w b.t rb.cs (locOf b rb) (q ++ [.snd]) = some (c2, ad.map fun p => (p.1, p.2 + sz a)) := by
      rw [nav_append, hn, ht]; simp [nav, navStep, ← hl]
    exact ⟨c1, c2, rfl, view_ok hr ((Valid_append q _).2 ⟨hv, VStep_fst _ _ ⟨a, b', ht⟩, trivial⟩) hn1 (by rw [ctype_append, ht]; rfl) r1,
      view_ok hr ((Valid_append q _).2 ⟨hv, VStep_snd _ _ ⟨a, b', ht⟩, trivial⟩) hn2 (by rw [ctype_append, ht]; rfl) r2⟩
  | .slc t, .ro, x, _, _, q, ad, hv, hn, ht, h => by have := Rep.ro h; subst this; exact h
  | .slc t, .own m, x, cs, _, q, ad, hv, hn, ht, h => by
    obtain ⟨v, rfl⟩ : ∃ v, cs = [v] := by
      have := h.len; simp [sz] at this
      match cs, this with
      | [v], _ => exact ⟨v, rfl⟩
    refine ⟨v, rfl, fun b' rb' hr' => ?_⟩
    rw [hr] at hr'; cases hr'
    exact ⟨hv, by rw [ht]; rfl, ad, hn⟩
  | .slc t, .dead, x, _, _, q, ad, hv, hn, ht, ⟨⟨v, e, _⟩, _⟩ => by rw [e]; simp [view, SVX]
  | .slc t, .pair _ _, x, _, _, q, ad, hv, hn, ht, h => by exact absurd h (by simp [Rep])
  | .slc t, .rz, x, _, _, q, ad, hv, hn, ht, h => by have := h.1.1; subst this; exact h
  | .mp _ _, .ro, x, _, _, q, ad, hv, hn, ht, h => by have := Rep.ro h; subst this; exact h
  | .mp _ _, .own m, x, cs, _, q, ad, hv, hn, ht, h => by
    obtain ⟨v, rfl⟩ : ∃ v, cs = [v] := by
      have := h.len; simp [sz] at this
      match cs, this with
      | [v], _ => exact ⟨v, rfl⟩
    refine ⟨v, rfl, fun b' rb' hr' => ?_⟩
    rw [hr] at hr'; cases hr'
    exact ⟨hv, by rw [ht]; rfl, ad, hn⟩
  | .mp _ _, .dead, x, _, _, q, ad, hv, hn, ht, ⟨⟨v, e, _⟩, _⟩ => by rw [e]; simp [view, SVX]
  | .mp _ _, .pair _ _, x, _, _, q, ad, hv, hn, ht, h => by exact absurd h (by simp [Rep])
  | .mp _ _, .rz, x, _, _, q, ad, hv, hn, ht, h => by exact absurd h (by simp [Rep])
theorem SVV.ofPack {s : SV} {t : Ty} {cs : List Value} {v : Value} (h : SVX w Im R s false cs) (hp : pack t cs v) (hs : s ≠ .undef → isAgg s = aggTy t) : SVV w Im R s v := by
  by_cases hu : s = .undef
  · exact .inl hu
  · refine .inr (.inr ⟨cs, ?_, h⟩)
    rw [hs hu]; exact hp
theorem struct_agg {t : Ty} (h : structTy t = true) : aggTy t = true := by cases t <;> simp_all [structTy, aggTy]
theorem run_load (hE : EnvOk P E) {tid : TypeId} {te : TE} (ht : E.get tid = some te) {b o : Nat} {c : Array Value} {e : TypeId} {fz : Nat × Nat} (hh : w.heap[b]? = some (.cells c e fz))
    {cs : List Value} (hc : (c.toList.drop o).take (sz te.ty) = cs) (hl : cs.length = sz te.ty) : ∃ v, (Instr.loadAt tid (.pointer (some ⟨b, o, none⟩))).run P w = .ok v w ∧ pack te.ty cs v := by
  obtain ⟨⟨i, hi⟩, hu, _⟩ := hE tid te ht
  have hcell : w.rangeAt b o cs := by
    intro j v hv
    rw [← hc] at hv
    have hj : j < sz te.ty := by rw [← hl, ← hc]; exact (List.getElem?_eq_some_iff.1 hv).1
    rw [List.getElem?_take_of_lt hj, List.getElem?_drop] at hv
    simp only [World.cell?, hh]
    simpa using hv
  have hagg : ∀ d, P.underlying tid = some d → d.isRow = true → aggTy te.ty = true → ∃ v, (Instr.loadAt tid (.pointer (some ⟨b, o, none⟩))).run P w = .ok v w ∧ pack te.ty cs v := by
    intro d hd hrow ha
    exact ⟨_, run_loadAt_mid w b o tid cs d hcell hd hrow (by rw [hi.info]; simp [hi.size, hl]), by simp [pack, ha]⟩
  have hone : ∀ d, P.underlying tid = some d → d.isRow = false → aggTy te.ty = false → sz te.ty = 1 → ∃ v, (Instr.loadAt tid (.pointer (some ⟨b, o, none⟩))).run P w = .ok v w ∧ pack te.ty cs v := by
    intro d hd hrow ha h1
    rw [h1] at hl
    match cs, hl, hcell with
    | [v], _, hcell =>
      refine ⟨v, ?_, by simp [pack, ha]⟩
      have h0 : w.cell? ⟨b, o, none⟩ = some v := by simpa using hcell 0 v rfl
      have : (Go.isAgg tid).run P w = .ok false w := by
        unfold Go.isAgg; rw [Sem.run_bind, run_underlying hd]; cases d <;> simp_all
      simp [Instr.loadAt, Instr.sureAddr, loadVar, Sem.run_bind, this, load, Sem.run, h0]
  unfold UndOk at hu
  split at hu
  · obtain ⟨h1, h2⟩ := hu; exact hone _ h1 rfl (by rw [h2]; rfl) (by rw [h2]; rfl)
  · obtain ⟨h1, h2⟩ := hu; exact hone _ h1 rfl (by rw [h2]; rfl) (by rw [h2]; rfl)
  · obtain ⟨h1, h2⟩ := hu; exact hone _ h1 rfl (by rw [h2]; rfl) (by rw [h2]; rfl)
  · obtain ⟨h1, ee, _, h2⟩ := hu; exact hone _ h1 rfl (by rw [h2]; rfl) (by rw [h2]; rfl)
  · obtain ⟨fs, h1, h2, _⟩ := hu; exact hagg _ h1 rfl (struct_agg h2)
  · obtain ⟨n, h1, h2, _⟩ := hu; exact hagg _ h1 rfl (struct_agg h2)
  · obtain ⟨h1, ke, ve, _, _, h3⟩ := hu
    exact hone _ h1 rfl (by rw [h3]; rfl) (by rw [h3]; rfl)
  · obtain ⟨d, h1, h2, h3⟩ := hu; exact hone _ h1 h2 (by rw [h3]; rfl) (by rw [h3]; rfl)
theorem Inv.loc (h : Inv G st vs w Im R hand) {r : Nat} {b : Bx} {rb : RB} (hr : R r = some (b, rb)) {q : Path} (hv : Valid b.t b.x b.m q) {cs : List Value} {b' o : Nat}
    (hn : nav w b.t rb.cs (locOf b rb) q = some (cs, some (b', o))) : ∃ c e, w.heap[b']? = some (.cells c e (0, 0)) ∧ (c.toList.drop o).take (sz (ctype b.t q)) = cs ∧ cs.length = sz (ctype b.t q) := by
  obtain ⟨cs', ad', A, h1, B, n1, n2, n3, n4, n5⟩ := focus q (ad := locOf b rb) hv (h.rep r b rb hr) (fun p hp => h.heapOK hr p (fragOf_sub p hp)) (h.nodup' hr)
  rw [hn] at n1
  simp only [Option.some.injEq, Prod.mk.injEq] at n1
  obtain ⟨rfl, rfl⟩ := n1
  have hl := n3.len
  by_cases h0 : lev q = 0
  · obtain ⟨pre, post, p1, p2, _⟩ := n4 h0
    unfold locOf at p2
    cases hm : b.mem with
    | none => rw [hm] at p2; simp at p2
    | some e =>
      rw [hm] at p2
      simp at p2
      obtain ⟨rfl, rfl⟩ := p2
      have := h.heapOK hr ((blkOf b rb), .cells rb.cs.toArray e) (by unfold fragOf; rw [hm]; exact List.mem_cons_self ..)
      refine ⟨rb.cs.toArray, e, this, ?_, hl⟩
      simp [p1, ← hl]
  · obtain ⟨A1, A2, b2, c, e, pre, post, p0, p1, p2, _⟩ := n5 h0
    simp only [Option.some.injEq, Prod.mk.injEq] at p2
    obtain ⟨rfl, rfl⟩ := p2
    have := h.heapOK hr (b', .cells c e) (fragOf_sub _ (by rw [n2, p0]; simp))
    refine ⟨c, e, this, ?_, hl⟩
    simp [p1, ← hl]
theorem load_some (hE : EnvOk P E) (h : Inv G st vs w Im R hand) {tid : TypeId} {te : TE} (ht : E.get tid = some te) {s : SV} {v : Value} {K : SV → Option T} (hk : loadS st.boxes te.ty s K = some r0) (hs : SVV w Im R s v) :
    ∃ s' z, K s' = some r0 ∧ (Instr.loadAt tid v).run P w = .ok z w ∧ SVV w Im R s' z := by
  unfold loadS at hk
  split at hk
  · rename_i t x
    split at hk
    · rename_i e; subst e
      obtain ⟨b, o, c, e, fz, e1, e2, e3, e4⟩ := hs.cell (by simp) (by simp) (by simp) rfl
      simp at e1; subst e1
      obtain ⟨z, hz, hp⟩ := run_load hE ht e3 rfl e4.len
      exact ⟨_, z, hk, hz, .ofPack (t := te.ty) e4 hp (fun _ => isAgg_con _ _)⟩
    · cases hk
  · rename_i r q
    split at hk
    · rename_i b hb
      split at hk
      · rename_i e
        obtain ⟨rb, hr⟩ := h.real hb
        obtain ⟨u, e1, hp⟩ := hs.cell (by simp) (by simp) (by simp) rfl
        simp at e1; subst e1
        obtain ⟨hv, cs, b', o, hn, rfl⟩ := hp b rb hr
        obtain ⟨c, el, hh, hc, hl⟩ := h.loc hr hv hn
        obtain ⟨cs2, ad2, h1, n1, n2, _⟩ := h.at_ hr hv
        rw [hn] at n1; simp only [Option.some.injEq, Prod.mk.injEq] at n1; obtain ⟨rfl, rfl⟩ := n1
        rw [e] at hc hl
        obtain ⟨z, hz, hp⟩ := run_load hE ht hh hc hl
        refine ⟨_, z, hk, hz, .ofPack (t := te.ty) (view_ok hr hv hn rfl n2) hp (fun hu => ?_)⟩
        rw [isAgg_view _ _ _ _ _ hu, e]
      · cases hk
    · cases hk
  · cases hk
end
end Go.Proofs.YtgdaiifhedpffaaDoor.V
set_option linter.unusedVariables false
set_option linter.unusedSimpArgs false
namespace Go.Proofs.YtgdaiifhedpffaaDoor.V
open Go
section
variable {P : Program} {G : Gl} {st : St} {vs : Array Value} {w : World} {Im : Nat → Prop} {R : Real} {hand : Frag} {T : Type} {r0 : T} {E : Env}
theorem add_at (b o n : Nat) : (⟨b, o, none⟩ : Addr).add n = ⟨b, o + n, none⟩ := Addr.add_mid b o n
theorem run_sizeOf_ok {tid : TypeId} {te : TE} {i : TypeInfo} (h : InfoOk P tid te i) (w : World) : (sizeOf tid).run P w = .ok (sz te.ty) w := by
  simp [sizeOf, typeInfo, h.info, h.size]
theorem run_index_ok {tid e : TypeId} {ee : TE} {i : TypeInfo} (hu : P.underlying tid = some (.slice e)) (hi : InfoOk P e ee i) (b o len cap : Nat) (k : IntKind) (n : Int) (h0 : 0 ≤ n) (h1 : n < len) :
    (Instr.indexAt tid (.slice (some ⟨b, o, none⟩) len cap) (.int k n)).run P w = .ok (.pointer (some ⟨b, o + n.toNat * sz ee.ty, none⟩)) w := by
  simp [Instr.indexAt, asIntOf, run_underlying hu, h0, h1, run_sizeOf_ok hi, add_at]
theorem run_index_all {tid e : TypeId} {ee : TE} {i : TypeInfo} (hu : P.underlying tid = some (.slice e)) (hi : InfoOk P e ee i) (b o len cap : Nat) (k : IntKind) (n : Int) (h0 : 0 ≤ n) (h1 : n < len) :
    ∀ w2, (Instr.indexAt tid (.slice (some ⟨b, o, none⟩) len cap) (.int k n)).run P w2 = .ok (.pointer (some ⟨b, o + n.toNat * sz ee.ty, none⟩)) w2 := fun w2 => run_index_ok hu hi b o len cap k n h0 h1
theorem elem_some (hE : EnvOk P E) (h : Inv G st vs w Im R hand) {tid : TypeId} {te : TE} (ht : E.get tid = some te) {e : TypeId} (hd : te.d = .slc e) {s : SV} {v : Value} {k : IntKind} {n : Int} {K : SV → Option T}
    (hk : elemS st.boxes te.ty s n K = some r0) (hs : SVV w Im R s v) :
    ∃ s' z, K s' = some r0 ∧ (∀ w2, (Instr.indexAt tid v (.int k n)).run P w2 = .ok z w2) ∧ SVV w Im R s' z := by
  have hu := (hE tid te ht).2.1
  unfold UndOk at hu
  rw [hd] at hu
  obtain ⟨hu, ee, hee, hty⟩ := hu
  obtain ⟨⟨i, hi⟩, _⟩ := hE e ee hee
  unfold elemS at hk
  split at hk
  · rename_i t xs
    split at hk
    · rename_i e1
      rw [hty] at e1; injection e1 with e1; subst e1
      split at hk
      · rename_i hb
        obtain ⟨h0, A, cap, e2, hc, hx⟩ := hs.cell (by simp) (by simp) (by simp) rfl
        have hlt : n.toNat < List.length xs := by omega
        obtain ⟨b, o, c, el, fz, rfl, him, hh, hr⟩ := hx (by intro h; rw [h] at hlt; simp at hlt)
        simp at e2; subst e2
        obtain ⟨pre, c0, post, hp, g0, hq, d1, d2, d3, d4, _⟩ := RepL.nth (n := sz ee.ty) (dflt ee.ty) (fun _ _ _ r => r.len) n.toNat hlt hr
        have h4 := d4.ro; subst h4
        refine ⟨_, _, hk, run_index_all hu hi b o _ cap k n hb.1 hb.2, .ofCell ⟨b, _, c, el, fz, rfl, him, hh, ?_⟩ rfl⟩
        have : (c.toList.drop (o + n.toNat * sz ee.ty)).take (sz ee.ty) = c0 := by
          rw [← List.drop_drop, d1, ← d3, ← d4.len]; simp
        rw [this]; exact d4
      · cases hk
    · cases hk
  · rename_i r q
    split at hk
    · rename_i b hb
      obtain ⟨u, e1, hr⟩ := hs.cell (by simp) (by simp) (by simp) rfl
      simp at e1; subst e1
      obtain ⟨h1, rb, hrr, n2, n3⟩ := h.ref hb hr
      obtain ⟨t', xs, m, c1, c2, n4, hvs, hk⟩ := rowOf_some (r0 := r0) hk n2
      split at hk
      · rename_i e1
        rw [hty] at e1; injection e1 with e1; subst e1
        split at hk
        · rename_i hbd
          obtain ⟨hval, _, ad, hn⟩ := hr b rb hrr
          have hlt : n.toNat < List.length xs := by omega
          obtain ⟨b', o, c, el, cap, h', e5, e6, e7, e8, e9, e10⟩ := Rep.own_cons n4 (by intro h; rw [h] at hlt; simp at hlt)
          simp at e5; subst e5
          have hh : w.heap[b']? = some (.cells c el (0, 0)) := h.heapOK hrr (b', .cells c el) (fragOf_sub _ (n3 _ (by rw [e6]; exact List.mem_cons_self ..)))
          refine ⟨_, _, hk, run_index_all hu hi b' o _ cap k n hbd.1 hbd.2, .ofCell ⟨_, rfl, fun b2 rb2 hr2 => ?_⟩ rfl⟩
          rw [hrr] at hr2; cases hr2
          refine ⟨(Valid_append q _).2 ⟨hval, ?_, trivial⟩, (c.toList.drop (o + n.toNat * sz ee.ty)).take (sz ee.ty), b', o + n.toNat * sz ee.ty, ?_, rfl⟩
          · exact hvs _ hlt
          · rw [nav_append, hn, c1]; simp [nav, navStep, hh]
        · cases hk
      · cases hk
    · cases hk
  · rename_i r q lo n'
    split at hk
    · rename_i b hb
      obtain ⟨u, e1, u2, hr, hsub⟩ := hs.cell (by simp) (by simp) (by simp) rfl
      simp at e1; subst e1
      obtain ⟨h1, rb, hrr, n2, n3⟩ := h.ref hb hr
      obtain ⟨t', xs, m, c1, c2, n4, hvs, hk⟩ := rowOf_some (r0 := r0) hk n2
      split at hk
      · rename_i e1
        rw [hty] at e1; injection e1 with e1; subst e1
        split at hk
        · rename_i hbd
          obtain ⟨hval, _, ad, hn⟩ := hr b rb hrr
          obtain ⟨t2, A, len, cap, A', cap', f1, f2, f3, f4, f5, f6, f7⟩ := hsub b rb hrr
          rw [c1] at f1; injection f1 with f1; subst f1
          obtain ⟨A2, cap2, g1, g2⟩ := Rep.ownLen n4
          rw [f2] at g1; injection g1 with g1 g3 g4; subst g1; subst g3; subst g4
          have hlt : lo + n.toNat < List.length xs := by omega
          obtain ⟨b', o, c, el, cap3, h', e5, e6, e7, e8, e9, e10⟩ := Rep.own_cons n4 (by intro h; rw [h] at hlt; simp at hlt)
          rw [f2] at e5; simp at e5
          obtain ⟨rfl, rfl⟩ := e5
          have hA := f7 (by omega)
          simp only [Option.map_some, add_at] at hA
          subst hA; subst f3; subst f2
          have hh : w.heap[b']? = some (.cells c el (0, 0)) := h.heapOK hrr (b', .cells c el) (fragOf_sub _ (n3 _ (by rw [e6]; exact List.mem_cons_self ..)))
          refine ⟨_, _, hk, run_index_all hu hi b' _ _ cap' k n hbd.1 hbd.2, .ofCell ⟨_, rfl, fun b2 rb2 hr2 => ?_⟩ rfl⟩
          rw [hrr] at hr2; cases hr2
          refine ⟨(Valid_append q _).2 ⟨hval, ?_, trivial⟩, (c.toList.drop (o + (lo + n.toNat) * sz ee.ty)).take (sz ee.ty), b', o + (lo + n.toNat) * sz ee.ty, ?_, by rw [Nat.add_mul]; simp [Nat.add_assoc]⟩
          · exact hvs _ hlt
          · rw [nav_append, hn, c1]; simp [nav, navStep, hh]
        · cases hk
      · cases hk
    · cases hk
  · cases hk
end
end Go.Proofs.YtgdaiifhedpffaaDoor.V
set_option linter.unusedVariables false
set_option linter.unusedSimpArgs false
namespace Go.Proofs.YtgdaiifhedpffaaDoor.V
open Go
theorem structTy_cases {t : Ty} {j : Nat} {ft : Ty} (h : structTy t = true) (hj : (fieldTys t)[j]? = some ft) : ∃ a b, t = .pair a b ∧ structTy b = true := by
  cases t <;> simp [structTy, fieldTys] at h hj
  exact ⟨_, _, rfl, h⟩
theorem fits_raw {t : Ty} {v : Value} (h : fitsTy (.slc t) (.raw v) = true) : v = .slice none 0 0 := by
  cases v with
  | slice a l c => cases a <;> cases l <;> cases c <;> simp [fitsTy] at h ⊢
  | _ => simp [fitsTy] at h
theorem foff_le : ∀ (j : Nat) {t ft : Ty}, structTy t = true → (fieldTys t)[j]? = some ft → foff t j + sz ft ≤ sz t := by
  intro j
  induction j with
  | zero =>
    intro t ft h hj
    obtain ⟨a, b, rfl, _⟩ := structTy_cases h hj
    simp [fieldTys] at hj; subst hj; simp [foff, sz]
  | succ j ih =>
    intro t ft h hj
    obtain ⟨a, b, rfl, hb⟩ := structTy_cases h hj
    simp [fieldTys] at hj
    have := ih hb hj
    simp [foff, sz]; omega
theorem fpath_ok : ∀ (j : Nat) {t ft : Ty}, structTy t = true → (fieldTys t)[j]? = some ft → ∀ (w : World) (x : den t) (m : Md) (cs : List Value) (ad : Option (Nat × Nat)),
    Valid t x m (fpath j) ∧ ctype t (fpath j) = ft ∧ ∃ c, nav w t cs ad (fpath j) = some (c, ad.map fun p => (p.1, p.2 + foff t j)) := by
  intro j
  induction j with
  | zero =>
    intro t ft h hj w x m cs ad
    obtain ⟨a, b, rfl, _⟩ := structTy_cases h hj
    simp [fieldTys] at hj; subst hj
    refine ⟨⟨trivial, trivial⟩, rfl, cs.take (sz a), ?_⟩
    cases ad <;> simp [nav, navStep, fpath, foff]
  | succ j ih =>
    intro t ft h hj w x m cs ad
    obtain ⟨a, b, rfl, hb⟩ := structTy_cases h hj
    simp [fieldTys] at hj
    obtain ⟨h1, h2, c, h3⟩ := ih hb hj w x.2 m.snd (cs.drop (sz a)) (ad.map fun p => (p.1, p.2 + sz a))
    refine ⟨⟨trivial, h1⟩, h2, c, ?_⟩
    show (match navStep w (.pair a b) cs ad .snd with | some p => nav w b p.1 p.2 (fpath j) | none => none) = _
    simp only [navStep]
    rw [h3]
    cases ad <;> simp [foff, Nat.add_assoc]
section
variable {P : Program} {G : Gl} {st : St} {vs : Array Value} {w : World} {Im : Nat → Prop} {R : Real} {hand : Frag} {T : Type} {r0 : T} {E : Env}
theorem proField_ok : ∀ (j : Nat) {t ft : Ty} {x : den t} {cs : List Value}, structTy t = true → (fieldTys t)[j]? = some ft → Rep w Im t .ro x cs [] →
    ∃ y, proField j t x = .pro ft y ∧ Rep w Im ft .ro y ((cs.drop (foff t j)).take (sz ft)) [] := by
  intro j
  induction j with
  | zero =>
    intro t ft x cs h hj hr
    obtain ⟨a, b, rfl, _⟩ := structTy_cases h hj
    simp [fieldTys] at hj; subst hj
    obtain ⟨c1, c2, h1, h2, e1, e2, r1, r2⟩ := hr
    have := r1.ro; subst this
    refine ⟨x.1, rfl, ?_⟩
    have : (cs.drop (foff (.pair a b) 0)).take (sz a) = c1 := by rw [e1, ← r1.len]; simp [foff]
    rw [this]; exact r1
  | succ j ih =>
    intro t ft x cs h hj hr
    obtain ⟨a, b, rfl, hb⟩ := structTy_cases h hj
    simp [fieldTys] at hj
    obtain ⟨c1, c2, h1, h2, e1, e2, r1, r2⟩ := hr
    have := r2.ro; subst this
    obtain ⟨y, f1, f2⟩ := ih hb hj r2
    refine ⟨y, f1, ?_⟩
    have : (cs.drop (foff (.pair a b) (j + 1))).take (sz ft) = (c2.drop (foff b j)).take (sz ft) := by
      rw [e1, show foff (.pair a b) (j + 1) = c1.length + foff b j by simp [foff, r1.len], ← List.drop_drop]; simp
    rw [this]; exact f2
theorem fits_len : ∀ {t : Ty} {s : SV} {cs : List Value}, fitsTy t s = true → SVX w Im R s false cs → cs.length = sz t := by
  intro t
  induction t with
  | pair a b iha ihb =>
    intro s cs h hs
    cases s <;> simp [fitsTy] at h
    · subst h; exact Rep.len hs
    · obtain ⟨c1, c2, e, h1, h2⟩ := hs
      rw [e, List.length_append, iha h.1 h1, ihb h.2 h2]; rfl
  | unit =>
    intro s cs h hs
    cases s with
    | con t x => cases t <;> simp [fitsTy] at h; exact Rep.len hs
    | _ => simp [fitsTy] at h
  | slc t ih =>
    intro s cs h hs
    cases s with
    | con t x => simp [fitsTy] at h; subst h; exact Rep.len hs
    | raw v => rw [fits_raw h] at hs; simp [SVX, Value.cells] at hs; subst hs; rfl
    | emp => obtain ⟨A, e⟩ := hs; rw [e]; rfl
    | ref r q => obtain ⟨v, e, _⟩ := hs; rw [e]; rfl
    | sub r q lo n => obtain ⟨v, e, _⟩ := hs; rw [e]; rfl
    | undef => exact hs
    | _ => simp [fitsTy] at h
  | raw =>
    intro s cs h hs
    cases s with
    | con t x => simp [fitsTy] at h; subst h; exact Rep.len hs
    | ptr r q => obtain ⟨v, e, _⟩ := hs; rw [e]; rfl
    | pro t x => obtain ⟨b, o, c, e, fz, e1, _⟩ := hs; rw [e1]; rfl
    | fn f c => obtain ⟨caps, e, _⟩ := hs; rw [e]; rfl
    | undef => exact hs
    | _ => simp [fitsTy] at h
  | _ =>
    intro s cs h hs
    cases s with
    | con t x => simp [fitsTy] at h; subst h; exact Rep.len hs
    | undef => exact hs
    | _ => simp [fitsTy] at h
theorem fits_agg : ∀ {t : Ty} {s : SV}, fitsTy t s = true → s ≠ .undef → isAgg s = aggTy t := by
  intro t s h hu
  cases t with
  | slc t =>
    cases s with
    | con t x => simp [fitsTy] at h; subst h; rfl
    | raw v => rw [fits_raw h]; rfl
    | undef => exact absurd rfl hu
    | _ => first | rfl | simp [fitsTy] at h
  | unit =>
    cases s with
    | con t x => cases t <;> simp [fitsTy] at h; rfl
    | _ => simp [fitsTy] at h
  | _ =>
    cases s with
    | con t x => simp [fitsTy] at h; subst h; rfl
    | undef => exact absurd rfl hu
    | _ => first | rfl | simp [fitsTy] at h
theorem fieldOf_ok : ∀ (j : Nat) {t ft : Ty} {s : SV} {cs : List Value}, structTy t = true → (fieldTys t)[j]? = some ft → fitsTy t s = true → SVX w Im R s false cs →
    SVX w Im R (fieldOf j s) false ((cs.drop (foff t j)).take (sz ft)) ∧ fitsTy ft (fieldOf j s) = true := by
  intro j
  induction j with
  | zero =>
    intro t ft s cs h hj hf hs
    obtain ⟨a, b, rfl, _⟩ := structTy_cases h hj
    simp [fieldTys] at hj; subst hj
    cases s <;> simp [fitsTy] at hf
    · subst hf
      obtain ⟨c1, c2, h1, h2, e1, e2, r1, r2⟩ := hs
      have := r1.ro; subst this
      have : (cs.drop (foff (.pair a b) 0)).take (sz a) = c1 := by rw [e1, ← r1.len]; simp [foff]
      rw [this]
      refine ⟨r1, ?_⟩
      show fitsTy a (.con a _) = true
      cases a <;> simp [fitsTy]
    · obtain ⟨c1, c2, e, h1, h2⟩ := hs
      have : (cs.drop (foff (.pair a b) 0)).take (sz a) = c1 := by rw [e, ← fits_len hf.1 h1]; simp [foff]
      rw [this]
      exact ⟨h1, hf.1⟩
  | succ j ih =>
    intro t ft s cs h hj hf hs
    obtain ⟨a, b, rfl, hb⟩ := structTy_cases h hj
    simp [fieldTys] at hj
    cases s <;> simp [fitsTy] at hf
    · subst hf
      obtain ⟨c1, c2, h1, h2, e1, e2, r1, r2⟩ := hs
      have := r2.ro; subst this
      rename_i x
      have := ih (s := .con b x.2) hb hj (by cases b <;> simp [fitsTy]) r2
      have e : (cs.drop (foff (.pair a b) (j + 1))).take (sz ft) = (c2.drop (foff b j)).take (sz ft) := by
        rw [e1, show foff (.pair a b) (j + 1) = c1.length + foff b j by simp [foff, r1.len], ← List.drop_drop]; simp
      rw [e]; exact this
    · obtain ⟨c1, c2, e, h1, h2⟩ := hs
      have := ih hb hj hf.2 h2
      have e : (cs.drop (foff (.pair a b) (j + 1))).take (sz ft) = (c2.drop (foff b j)).take (sz ft) := by
        rw [e, show foff (.pair a b) (j + 1) = c1.length + foff b j by simp [foff, fits_len hf.1 h1], ← List.drop_drop]; simp
      rw [e]; exact this
theorem und_struct (hE : EnvOk P E) {tid : TypeId} {te : TE} (ht : E.get tid = some te) {l : List TypeId} (hd : te.d = .struct l) {j : Nat} (hj : j < (fieldTys te.ty).length) :
    ∃ fields f fe i, P.underlying tid = some (.struct fields) ∧ structTy te.ty = true ∧ fields[j]? = some f ∧ f.offset = foff te.ty j ∧ E.get f.type = some fe ∧ (fieldTys te.ty)[j]? = some fe.ty ∧ sz fe.ty ≠ 0 ∧ InfoOk P f.type fe i := by
  have hu := (hE tid te ht).2.1
  unfold UndOk at hu
  rw [hd] at hu
  obtain ⟨fields, h1, h2, h3, h4⟩ := hu
  obtain ⟨f5, fe, f6, f7, f8⟩ := h4 j fields[j] (by simp [h3, hj])
  obtain ⟨⟨i, hi⟩, _⟩ := hE _ fe f6
  exact ⟨fields, fields[j], fe, i, h1, h2, by simp [h3, hj], f5, f6, f7, f8, hi⟩
theorem fieldAddr_some (hE : EnvOk P E) (h : Inv G st vs w Im R hand) {tid : TypeId} {te : TE} (ht : E.get tid = some te) {l : List TypeId} (hd : te.d = .struct l) {s : SV} {v : Value} {j : Nat} {K : SV → Option T}
    (hk : fieldPtr st.boxes te.ty j s K = some r0) (hs : SVV w Im R s v) : ∃ s' z, K s' = some r0 ∧ (∀ w2, (Instr.fieldAt tid v j).run P w2 = .ok z w2) ∧ SVV w Im R s' z := by
  have run : ∀ b o, j < (fieldTys te.ty).length → ∀ w2, (Instr.fieldAt tid (.pointer (some ⟨b, o, none⟩)) j).run P w2 = .ok (.pointer (some ⟨b, o + foff te.ty j, none⟩)) w2 := by
    intro b o hj w2
    obtain ⟨fields, f, fe, i, h1, h2, h3, h4, h5, h6, h7, h8⟩ := und_struct hE ht hd hj
    simp [Instr.fieldAt, run_underlying h1, h3, Instr.sureAddr, fieldPlace, run_sizeOf_ok h8, h7, h4, add_at]
  unfold fieldPtr at hk
  split at hk
  · rename_i r q
    split at hk
    · rename_i b hb
      split at hk
      · rename_i hc
        obtain ⟨u, e1, hp⟩ := hs.cell (by simp) (by simp) (by simp) rfl
        simp at e1; subst e1
        obtain ⟨rb, hr⟩ := h.real hb
        obtain ⟨hv, cs, b', o, hn, rfl⟩ := hp b rb hr
        refine ⟨_, _, hk, run b' o hc.2, .ofCell ⟨_, rfl, fun b2 rb2 hr2 => ?_⟩ rfl⟩
        rw [hr] at hr2; cases hr2
        obtain ⟨fields, f, fe, i, h1, h2, h3, h4, h5, h6, h7, h8⟩ := und_struct hE ht hd hc.2
        rw [← hc.1] at h2 h6
        obtain ⟨f1, f2, c, f3⟩ := fpath_ok j h2 h6 w (cget b.t b.x q) (mget b.m q) cs (some (b', o))
        refine ⟨(Valid_append q _).2 ⟨hv, f1⟩, c, b', o + foff te.ty j, ?_, rfl⟩
        rw [nav_append, hn]
        simp only [Option.bind_some]
        rw [f3, hc.1]; rfl
      · cases hk
    · cases hk
  · rename_i t x
    split at hk
    · rename_i hc
      obtain ⟨rfl, hc⟩ := hc
      obtain ⟨b, o, c, e, fz, e1, e2, e3, e4⟩ := hs.cell (by simp) (by simp) (by simp) rfl
      simp at e1; subst e1
      obtain ⟨fields, f, fe, i, h1, h2, h3, h4, h5, h6, h7, h8⟩ := und_struct hE ht hd hc
      obtain ⟨y, f1, f2⟩ := proField_ok j h2 h6 e4
      rw [f1] at hk
      refine ⟨_, _, hk, run b o hc, .ofCell ⟨b, _, c, e, fz, rfl, e2, e3, ?_⟩ rfl⟩
      have hle : foff te.ty j + sz fe.ty ≤ sz te.ty := foff_le j h2 h6
      rw [List.drop_take, List.take_take, List.drop_drop, Nat.min_eq_left (by omega)] at f2
      exact f2
    · cases hk
  · cases hk
theorem und_arr (hE : EnvOk P E) {tid : TypeId} {te : TE} (ht : E.get tid = some te) {e : TypeId} (hd : te.d = .arr e) {j : Nat} (hj : j < (fieldTys te.ty).length) :
    ∃ n fe i, P.underlying tid = some (.array n e) ∧ structTy te.ty = true ∧ j < n ∧ foff te.ty j = j * sz fe.ty ∧ (fieldTys te.ty)[j]? = some fe.ty ∧ sz fe.ty ≠ 0 ∧ InfoOk P e fe i := by
  have hu := (hE tid te ht).2.1
  unfold UndOk at hu
  rw [hd] at hu
  obtain ⟨n, h1, h2, h3, fe, h4, h5, h6⟩ := hu
  obtain ⟨⟨i, hi⟩, _⟩ := hE _ fe h4
  obtain ⟨h7, h8⟩ := h6 j (by omega)
  exact ⟨n, fe, i, h1, h2, by omega, h8, h7, h5, hi⟩
theorem arrAddr_some (hE : EnvOk P E) (h : Inv G st vs w Im R hand) {tid : TypeId} {te : TE} (ht : E.get tid = some te) {e0 : TypeId} (hd : te.d = .arr e0) {s : SV} {v : Value} {j : Int} (hj0 : 0 ≤ j) (k : IntKind) {K : SV → Option T}
    (hk : fieldPtr st.boxes te.ty j.toNat s K = some r0) (hs : SVV w Im R s v) : ∃ s' z, K s' = some r0 ∧ (∀ w2, (Instr.indexAt tid v (.int k j)).run P w2 = .ok z w2) ∧ SVV w Im R s' z := by
  have run : ∀ b o, j.toNat < (fieldTys te.ty).length → ∀ w2, (Instr.indexAt tid (.pointer (some ⟨b, o, none⟩)) (.int k j)).run P w2 = .ok (.pointer (some ⟨b, o + foff te.ty j.toNat, none⟩)) w2 := by
    intro b o hj w2
    obtain ⟨n, fe, i, h1, h2, h3, h4, h6, h7, h8⟩ := und_arr hE ht hd hj
    have hn : j < (n : Int) := by omega
    rw [h4]
    simp [Instr.indexAt, asIntOf, run_underlying h1, Instr.sureAddr, hj0, hn, run_sizeOf_ok h8, add_at]
  unfold fieldPtr at hk
  split at hk
  · rename_i r q
    split at hk
    · rename_i b hb
      split at hk
      · rename_i hc
        obtain ⟨u, e1, hp⟩ := hs.cell (by simp) (by simp) (by simp) rfl
        simp at e1; subst e1
        obtain ⟨rb, hr⟩ := h.real hb
        obtain ⟨hv, cs, b', o, hn, rfl⟩ := hp b rb hr
        refine ⟨_, _, hk, run b' o hc.2, .ofCell ⟨_, rfl, fun b2 rb2 hr2 => ?_⟩ rfl⟩
        rw [hr] at hr2; cases hr2
        obtain ⟨n, fe, i, h1, h2, h3, h4, h6, h7, h8⟩ := und_arr hE ht hd hc.2
        rw [← hc.1] at h2 h6
        obtain ⟨f1, f2, c, f3⟩ := fpath_ok j.toNat h2 h6 w (cget b.t b.x q) (mget b.m q) cs (some (b', o))
        refine ⟨(Valid_append q _).2 ⟨hv, f1⟩, c, b', o + foff te.ty j.toNat, ?_, rfl⟩
        rw [nav_append, hn]
        simp only [Option.bind_some]
        rw [f3, hc.1]; rfl
      · cases hk
    · cases hk
  · rename_i t x
    split at hk
    · rename_i hc
      obtain ⟨rfl, hc⟩ := hc
      obtain ⟨b, o, c, e, fz, e1, e2, e3, e4⟩ := hs.cell (by simp) (by simp) (by simp) rfl
      simp at e1; subst e1
      obtain ⟨n, fe, i, h1, h2, h3, h4, h6, h7, h8⟩ := und_arr hE ht hd hc
      obtain ⟨y, f1, f2⟩ := proField_ok j.toNat h2 h6 e4
      rw [f1] at hk
      refine ⟨_, _, hk, run b o hc, .ofCell ⟨b, _, c, e, fz, rfl, e2, e3, ?_⟩ rfl⟩
      have hle : foff te.ty j.toNat + sz fe.ty ≤ sz te.ty := foff_le j.toNat h2 h6
      rw [List.drop_take, List.take_take, List.drop_drop, Nat.min_eq_left (by omega)] at f2
      exact f2
    · cases hk
  · cases hk
end
end Go.Proofs.YtgdaiifhedpffaaDoor.V
set_option linter.unusedVariables false
set_option linter.unusedSimpArgs false
namespace Go.Proofs.YtgdaiifhedpffaaDoor.V
open Go
section
variable {P : Program} {G : Gl} {st : St} {vs : Array Value} {w : World} {Im : Nat → Prop} {R : Real} {hand : Frag} {T : Type} {r0 : T} {E : Env}
theorem und_row (hE : EnvOk P E) {tid : TypeId} {te : TE} (ht : E.get tid = some te) : ∃ d, P.underlying tid = some d ∧ d.isRow = aggTy te.ty ∧ (aggTy te.ty = false → sz te.ty = 1) := by
  have hu := (hE tid te ht).2.1
  unfold UndOk at hu
  split at hu
  · obtain ⟨h1, h2⟩ := hu; exact ⟨_, h1, by rw [h2]; rfl, by rw [h2]; intro _; rfl⟩
  · obtain ⟨h1, h2⟩ := hu; exact ⟨_, h1, by rw [h2]; rfl, by rw [h2]; intro _; rfl⟩
  · obtain ⟨h1, h2⟩ := hu; exact ⟨_, h1, by rw [h2]; rfl, by rw [h2]; intro _; rfl⟩
  · obtain ⟨h1, ee, _, h2⟩ := hu; exact ⟨_, h1, by rw [h2]; rfl, by rw [h2]; intro _; rfl⟩
  · obtain ⟨fs, h1, h2, _⟩ := hu; exact ⟨_, h1, by rw [struct_agg h2], fun h => by rw [struct_agg h2] at h; cases h⟩
  · obtain ⟨n, h1, h2, _⟩ := hu; exact ⟨_, h1, by rw [struct_agg h2], fun h => by rw [struct_agg h2] at h; cases h⟩
  · obtain ⟨h1, ke, ve, _, _, h3⟩ := hu; exact ⟨_, h1, by rw [h3]; rfl, by rw [h3]; exact fun _ => rfl⟩
  · obtain ⟨d, h1, h2, h3⟩ := hu; exact ⟨_, h1, by rw [h3, h2]; rfl, by rw [h3]; intro _; rfl⟩
theorem run_isAgg (hE : EnvOk P E) {tid : TypeId} {te : TE} (ht : E.get tid = some te) (w : World) : (Go.isAgg tid).run P w = .ok (aggTy te.ty) w := by
  obtain ⟨d, h1, h2, _⟩ := und_row hE ht
  unfold Go.isAgg
  rw [Sem.run_bind, run_underlying h1, ← h2]
  cases d <;> rfl
theorem run_part (hE : EnvOk P E) {tid : TypeId} {te : TE} (ht : E.get tid = some te) {arr : Array Value} {off : Nat} {cs : List Value} (hc : (arr.toList.drop off).take (sz te.ty) = cs) (hl : cs.length = sz te.ty) :
    ∃ v, (part tid arr off).run P w = .ok v w ∧ pack te.ty cs v := by
  obtain ⟨⟨i, hi⟩, _⟩ := hE tid te ht
  obtain ⟨_, _, _, hone⟩ := und_row hE ht
  cases ha : aggTy te.ty with
  | true =>
    refine ⟨.agg cs.toArray, ?_, by simp [pack, ha]⟩
    simp only [part, Sem.run_bind, run_isAgg hE ht, ha, Result.andThen_ok, if_true, run_sizeOf_ok hi]
    have : arr.extract off (off + sz te.ty) = cs.toArray := by
      apply Array.ext'; rw [← hc]; simp [List.take_drop, Nat.add_comm]
    rw [this]; rfl
  | false =>
    rw [hone ha] at hl hc
    match cs, hl with
    | [v], _ =>
      refine ⟨v, ?_, by simp [pack, ha]⟩
      have hv : arr[off]? = some v := by
        have := congrArg (fun l => l[0]?) hc
        simpa [List.getElem?_take, List.getElem?_drop] using this
      simp [part, Sem.run_bind, run_isAgg hE ht, ha, hv]
theorem field_some (hE : EnvOk P E) {tid : TypeId} {te : TE} (ht : E.get tid = some te) {l : List TypeId} (hd : te.d = .struct l) {s : SV} {v : Value} {j : Nat}
    (hf : fitsTy te.ty s = true ∧ j < (fieldTys te.ty).length) (hs : SVV w Im R s v) (hu : s ≠ .undef) :
    ∃ z, (Instr.field tid v j).run P w = .ok z w ∧ SVV w Im R (fieldOf j s) z := by
  obtain ⟨fields, f, fe, i, h1, h2, h3, h4, h5, h6, h7, h8⟩ := und_struct hE ht hd hf.2
  obtain ⟨cs, e, hx⟩ := hs.cells hu (by intro h; rw [h] at hf; cases hty : te.ty <;> simp [hty, fitsTy] at hf) (by intro a b h; rw [h] at hf; cases hty : te.ty <;> simp [hty, fitsTy] at hf)
  rw [fits_agg hf.1 hu, struct_agg h2, if_pos rfl] at e
  subst e
  obtain ⟨f1, f2⟩ := fieldOf_ok j h2 h6 hf.1 hx
  obtain ⟨z, hz, hp⟩ := run_part (w := w) hE h5 (arr := cs.toArray) (off := foff te.ty j) rfl (fits_len f2 f1)
  refine ⟨z, ?_, .ofPack f1 hp (fun h => fits_agg f2 h)⟩
  simp only [Instr.field, Sem.run_bind, run_underlying h1, Result.andThen_ok, h3, asAgg, Sem.run_pure, h4]
  exact hz
theorem Rep.part {t : Ty} {xs : List (den t)} {A A' : Option Addr} {len cap cap' lo n : Nat} {h : Frag} (r : Rep w Im (.slc t) .ro xs [.slice A len cap] h) (h1 : lo + n ≤ xs.length) (h2 : n ≤ cap')
    (h3 : 0 < cap' → A' = A.map fun a => a.add (lo * sz t)) : Rep w Im (.slc t) .ro ((xs.drop lo).take n) [.slice A' n cap'] [] := by
  obtain ⟨e0, B, cap2, e, hc, hx⟩ := r
  simp at e
  obtain ⟨rfl, rfl, rfl⟩ := e
  have hl : ((xs.drop lo).take n).length = n := by simp; omega
  refine ⟨rfl, A', cap', by rw [hl], by omega, fun hne => ?_⟩
  have hn : 0 < n := by
    rcases Nat.eq_zero_or_pos n with h | h
    · subst h; simp at hne
    · exact h
  obtain ⟨b, o, c, el, fz, rfl, him, hh, hr⟩ := hx (by intro h; rw [h] at h1; simp at h1; omega)
  have hA := h3 (by omega)
  simp only [Option.map_some, add_at] at hA
  refine ⟨b, o + lo * sz t, c, el, fz, hA, him, hh, ?_⟩
  obtain ⟨g1, g2, e1, s1, s2⟩ := RepL.split (n := sz t) (fun _ _ _ r => r.len) lo hr (by omega)
  have g0 := RepL.none (fun _ _ _ r => r.ro) s2
  subst g0
  obtain ⟨g3, g4, e2, s3, s4⟩ := RepL.split (n := sz t) (fun _ _ _ r => r.len) n s2 (by simp; omega)
  have g0 := RepL.none (fun _ _ _ r => r.ro) s3
  subst g0
  rw [List.drop_drop] at s3
  exact s3
theorem optInt_some {st : St} {o : Option Operand} {d : Int} {K : Int → Option T} (h : optInt st o d K = some r0) :
    ∃ n, K n = some r0 ∧ ((o = none ∧ n = d) ∨ ∃ x k, o = some x ∧ st.ev x = .con (.int k) n) := by
  unfold optInt at h
  split at h
  · exact ⟨d, h, .inl ⟨rfl, rfl⟩⟩
  · obtain ⟨k, n, e, h⟩ := asInt_some h
    exact ⟨n, h, .inr ⟨_, k, rfl, e⟩⟩
theorem Inv.optv {a : Act} (h : Inv G st a.tmps w Im R hand) {o : Option Operand} {d n : Int} (hh : (o = none ∧ n = d) ∨ ∃ x k, o = some x ∧ st.ev x = .con (.int k) n) :
    (o.map a.eval = none ∧ n = d) ∨ ∃ k, o.map a.eval = some (.int k n) := by
  rcases hh with ⟨rfl, e⟩ | ⟨x, k, rfl, e⟩
  · exact .inl ⟨rfl, e⟩
  · have := h.ev x; rw [e] at this
    exact .inr ⟨k, by simp [this.int]⟩
theorem run_bounds {isS : Bool} {len cap : Nat} {lo hi mx : Option Value} {l h : Int} (hl : (lo = none ∧ l = 0) ∨ ∃ k, lo = some (.int k l)) (hh : (hi = none ∧ h = len) ∨ ∃ k, hi = some (.int k h))
    (h0 : 0 ≤ l) (h1 : l ≤ h) (hm : mx = none ∧ h ≤ cap) (hlen : len ≤ cap) : (Instr.sliceBounds isS len cap lo hi mx).run P w = .ok (l.toNat, h.toNat, cap) w := by
  obtain ⟨rfl, h2⟩ := hm
  have hh0 : 0 ≤ h := by omega
  have e : ((h.toNat : Nat) : Int) = h := by omega
  rcases hh with ⟨rfl, rfl⟩ | ⟨k, rfl⟩
  · rcases hl with ⟨rfl, rfl⟩ | ⟨k2, rfl⟩
    · simp [Instr.sliceBounds]
    · simp [Instr.sliceBounds, Instr.sliceBound, asIntOf, h0, h1]
  · rcases hl with ⟨rfl, rfl⟩ | ⟨k2, rfl⟩
    · simp [Instr.sliceBounds, Instr.sliceBound, asIntOf, hh0, h2]
    · simp [Instr.sliceBounds, Instr.sliceBound, asIntOf, hh0, h2, h0, e, h1]
theorem run_bounds3 {isS : Bool} {len cap : Nat} {lo hi : Option Value} {l h m : Int} {km : IntKind} (hl : (lo = none ∧ l = 0) ∨ ∃ k, lo = some (.int k l)) (hh : ∃ k, hi = some (.int k h))
    (h0 : 0 ≤ l) (h1 : l ≤ h) (h2 : h ≤ m) (h3 : m ≤ cap) : (Instr.sliceBounds isS len cap lo hi (some (.int km m))).run P w = .ok (l.toNat, h.toNat, m.toNat) w := by
  have hh0 : 0 ≤ h := by omega
  have hm0 : 0 ≤ m := by omega
  have e : ((h.toNat : Nat) : Int) = h := by omega
  have e2 : ((m.toNat : Nat) : Int) = m := by omega
  obtain ⟨k, rfl⟩ := hh
  rcases hl with ⟨rfl, rfl⟩ | ⟨k2, rfl⟩
  · simp [Instr.sliceBounds, Instr.sliceBound, asIntOf, hh0, h2, hm0, h3, e2]
  · simp [Instr.sliceBounds, Instr.sliceBound, asIntOf, hh0, h2, h0, e, h1, hm0, h3, e2]
theorem add_add (a : Addr) (x y : Nat) : (a.add x).add y = a.add (x + y) := by
  unfold Addr.add
  by_cases h : x = 0
  · subst h; simp
  · by_cases h2 : y = 0
    · subst h2; simp [h]
    · have : x + y ≠ 0 := by omega
      simp [h, h2, this, Nat.add_assoc]
theorem run_sliceAt {tid e : TypeId} {ee : TE} {i : TypeInfo} (hu : P.underlying tid = some (.slice e)) (hi : InfoOk P e ee i) {A : Option Addr} {len cap : Nat} {lo hi' mx : Option Value} {l h m : Nat}
    (hb : (Instr.sliceBounds true len cap lo hi' mx).run P w = .ok (l, h, m) w) :
    (Instr.sliceAt tid (.slice A len cap) lo hi' mx).run P w = .ok (.slice (if m = l then A else A.map fun a => a.add (l * sz ee.ty)) (h - l) (m - l)) w := by
  simp [Instr.sliceAt, Instr.slice, Sem.run_bind, run_underlying hu, hb, run_sizeOf_ok hi]
theorem isZero_some {o : Option Operand} (h : isZero o = true) {a : Act} : ∃ k, o.map a.eval = some (.int k 0) := by
  unfold isZero at h
  split at h
  · simp at h; subst h; exact ⟨_, rfl⟩
  · cases h
theorem slice_some (hE : EnvOk P E) {a : Act} (h : Inv G st a.tmps w Im R hand) {tid : TypeId} {te : TE} (ht : E.get tid = some te) (hd : (∃ e, te.d = .slc e) ∨ te.d = .str) {s : SV} {v : Value} {lo hi mx : Option Operand} {K : SV → Option T}
    (hk : sliceS st te.ty s lo hi mx K = some r0) (hs : SVV w Im R s v) :
    ∃ s' z, K s' = some r0 ∧ (Instr.sliceAt tid v (lo.map a.eval) (hi.map a.eval) (mx.map a.eval)).run P w = .ok z w ∧ SVV w Im R s' z := by
  have hu := (hE tid te ht).2.1
  have hslc : te.ty ≠ .str → ∃ e ee i, P.underlying tid = some (.slice e) ∧ te.ty = .slc ee.ty ∧ InfoOk P e ee i := by
    intro hne
    unfold UndOk at hu
    rcases hd with ⟨e, hd⟩ | hd
    · rw [hd] at hu; obtain ⟨h1, ee, h2, h3⟩ := hu
      obtain ⟨⟨i, hi⟩, _⟩ := hE e ee h2
      exact ⟨e, ee, i, h1, h3, hi⟩
    · rw [hd] at hu; exact absurd hu.2 hne
  have hstr : te.ty = .str → P.underlying tid = some .string := by
    intro he
    unfold UndOk at hu
    rcases hd with ⟨e, hd⟩ | hd
    · rw [hd] at hu; obtain ⟨h1, ee, h2, h3⟩ := hu; rw [he] at h3; cases h3
    · rw [hd] at hu; exact hu.1
  unfold sliceS at hk
  split at hk
  · rename_i x
    have e := hs.str; subst e
    split at hk
    · split at hk
      · rename_i he
        obtain ⟨hh, hk, hhi⟩ := optInt_some hk
        obtain ⟨l, hk, hlo⟩ := optInt_some hk
        split at hk
        · rename_i hb
          have hb' := run_bounds (P := P) (w := w) (isS := false) (len := x.size) (cap := x.size) (mx := none) (h.optv hlo) (h.optv hhi) hb.1 hb.2.1 ⟨rfl, hb.2.2⟩ (Nat.le_refl _)
          refine ⟨_, _, hk, ?_, .ofStr _⟩
          simp [Instr.sliceAt, Instr.slice, Sem.run_bind, run_underlying (hstr he), hb']
        · cases hk
      · cases hk
    · cases hk
  · have e := hs.raw; subst e
    split at hk
    · split at hk
      · cases hk
      · rename_i hne
        obtain ⟨e, ee, i, h1, h2, h3⟩ := hslc hne
        obtain ⟨hh, hk, hhi⟩ := optInt_some hk
        obtain ⟨l, hk, hlo⟩ := optInt_some hk
        split at hk
        · rename_i hb
          have hb' := run_bounds (P := P) (w := w) (isS := true) (len := 0) (cap := 0) (mx := none) (h.optv hlo) (h.optv hhi) hb.1 hb.2.1 ⟨rfl, by omega⟩ (Nat.le_refl _)
          refine ⟨_, _, hk, run_sliceAt h1 h3 hb', ?_⟩
          have : l.toNat = 0 := by omega
          have : hh.toNat = 0 := by omega
          have el : l.toNat = 0 := by omega
          have eh : hh.toNat = 0 := by omega
          rw [el, eh]; exact .ofRaw _
        · cases hk
    · cases hk
  · rename_i t xs
    split at hk
    · rename_i he
      obtain ⟨e, ee, i, h1, h2, h3⟩ := hslc (by rw [← he]; simp)
      rw [h2] at he; injection he with he; subst he
      have hrep := hs.cell (by simp) (by simp) (by simp) rfl
      obtain ⟨A, cap, rfl, hcap⟩ := Rep.roLen hrep
      split at hk
      · obtain ⟨hh, hk, hhi⟩ := optInt_some hk
        obtain ⟨l, hk, hlo⟩ := optInt_some hk
        split at hk
        · rename_i hb
          have hb' := run_bounds (P := P) (w := w) (isS := true) (len := List.length xs) (cap := cap) (mx := none) (h.optv hlo) (h.optv hhi) hb.1 hb.2.1 ⟨rfl, by omega⟩ hcap
          refine ⟨_, _, hk, run_sliceAt h1 h3 hb', .ofCell (Rep.part hrep (by omega) (by omega) (fun hp => by rw [if_neg (by omega)])) rfl⟩
        · cases hk
      · split at hk
        · rename_i hz
          obtain ⟨k1, e1⟩ := isZero_some (a := a) hz.1
          obtain ⟨k2, e2⟩ := isZero_some (a := a) hz.2.1
          have e3 : lo.map a.eval = none := by have := hz.2.2; simp at this; simp [this]
          have hb' := run_bounds3 (P := P) (w := w) (isS := true) (len := List.length xs) (cap := cap) (lo := none) (hi := some (.int k1 0)) (l := 0) (h := 0) (m := 0) (km := k2) (.inl ⟨rfl, rfl⟩) ⟨k1, rfl⟩ (by omega) (by omega) (by omega) (by omega)
          refine ⟨_, _, hk, by rw [e1, e2, e3]; exact run_sliceAt h1 h3 hb', .ofCell ⟨A, by simp⟩ rfl⟩
        · rename_i m _
          obtain ⟨km, mv, e1, hk⟩ := asInt_some hk
          have hm := h.ev m; rw [e1] at hm
          split at hk
          · rename_i his
            obtain ⟨hh, hk, hhi⟩ := optInt_some hk
            obtain ⟨l, hk, hlo⟩ := optInt_some hk
            split at hk
            · rename_i hb
              have hhi' : ∃ k, hi.map a.eval = some (.int k hh) := by
                rcases h.optv hhi with ⟨e, _⟩ | e
                · rw [Option.map_eq_none_iff] at e; rw [e] at his; cases his
                · exact e
              have hb' := run_bounds3 (P := P) (w := w) (isS := true) (len := List.length xs) (cap := cap) (km := km) (h.optv hlo) hhi' hb.1 hb.2.1 hb.2.2.1 (m := mv) (by omega)
              refine ⟨_, _, hk, by simp only [Option.map_some, hm.int]; exact run_sliceAt h1 h3 hb', .ofCell (Rep.part hrep (by omega) (by omega) (fun hp => by rw [if_neg (by omega)])) rfl⟩
            · cases hk
          · cases hk
    · cases hk
  · rename_i r q
    split at hk
    · rename_i b hb
      obtain ⟨u, e1, hr⟩ := hs.cell (by simp) (by simp) (by simp) rfl
      simp at e1; subst e1
      obtain ⟨g1, rb, hrr, n2, n3⟩ := h.ref hb hr
      obtain ⟨t', xs, m', c1, c2, n4, _, hk⟩ := rowOf_some (r0 := r0) hk n2
      split at hk
      · rename_i he
        obtain ⟨e, ee, i, h1, h2, h3⟩ := hslc (by rw [← he]; simp)
        rw [h2] at he; injection he with he; subst he
        obtain ⟨A, cap, rfl, hcap⟩ := Rep.ownLen n4
        obtain ⟨hh, hk, hhi⟩ := optInt_some hk
        obtain ⟨l, hk, hlo⟩ := optInt_some hk
        cases mx with
        | none =>
          dsimp only at hk
          split at hk
          · rename_i hbd
            have hb' := run_bounds (P := P) (w := w) (isS := true) (len := List.length xs) (cap := cap) (mx := none) (h.optv hlo) (h.optv hhi) hbd.1 hbd.2.1 ⟨rfl, by omega⟩ hcap
            refine ⟨_, _, hk, run_sliceAt h1 h3 hb', .ofCell ⟨_, rfl, _, hr, fun b2 rb2 hr2 => ?_⟩ rfl⟩
            rw [hrr] at hr2; cases hr2
            exact ⟨ee.ty, A, _, cap, _, _, c1, rfl, rfl, by omega, by omega, by omega, fun hp => by rw [if_neg (by omega)]⟩
          · cases hk
        | some m =>
          dsimp only at hk
          split at hk
          · rename_i his
            obtain ⟨km, mv, e1, hk⟩ := asInt_some hk
            have hm := h.ev m; rw [e1] at hm
            split at hk
            · rename_i hbd
              have hhi' : ∃ k, hi.map a.eval = some (.int k hh) := by
                rcases h.optv hhi with ⟨e, _⟩ | e
                · rw [Option.map_eq_none_iff] at e; rw [e] at his; cases his
                · exact e
              have hb' := run_bounds3 (P := P) (w := w) (isS := true) (len := List.length xs) (cap := cap) (km := km) (h.optv hlo) hhi' hbd.1 hbd.2.1 hbd.2.2.1 (m := mv) (by omega)
              refine ⟨_, _, hk, by simp only [Option.map_some, hm.int]; exact run_sliceAt h1 h3 hb', .ofCell ⟨_, rfl, _, hr, fun b2 rb2 hr2 => ?_⟩ rfl⟩
              rw [hrr] at hr2; cases hr2
              exact ⟨ee.ty, A, _, cap, _, _, c1, rfl, rfl, by omega, by omega, by omega, fun hp => by rw [if_neg (by omega)]⟩
            · cases hk
          · cases hk
      · cases hk
    · cases hk
  · rename_i r q o n
    split at hk
    · rename_i b hb
      obtain ⟨u, e1, u2, hr, hsub⟩ := hs.cell (by simp) (by simp) (by simp) rfl
      simp at e1; subst e1
      obtain ⟨g1, rb, hrr, n2, n3⟩ := h.ref hb hr
      obtain ⟨t', xs, m', c1, c2, n4, _, hk⟩ := rowOf_some (r0 := r0) hk n2
      split at hk
      · rename_i he
        obtain ⟨e, ee, i, h1, h2, h3⟩ := hslc (by rw [← he]; simp)
        rw [h2] at he; injection he with he; subst he
        obtain ⟨t2, A, len, cap, A', cap', f1, f2, f3, f4, f5, f6, f7⟩ := hsub b rb hrr
        rw [c1] at f1; injection f1 with f1; subst f1
        subst f3
        obtain ⟨hh, hk, hhi⟩ := optInt_some hk
        obtain ⟨l, hk, hlo⟩ := optInt_some hk
        split at hk
        · split at hk
          · rename_i hbd
            have hb' := run_bounds (P := P) (w := w) (isS := true) (len := n) (cap := cap') (mx := none) (h.optv hlo) (h.optv hhi) hbd.1 hbd.2.1 ⟨rfl, by omega⟩ f5
            refine ⟨_, _, hk, run_sliceAt h1 h3 hb', .ofCell ⟨_, rfl, _, hr, fun b2 rb2 hr2 => ?_⟩ rfl⟩
            rw [hrr] at hr2; cases hr2
            refine ⟨ee.ty, A, len, cap, _, _, c1, f2, rfl, by omega, by omega, by omega, fun hp => ?_⟩
            rw [if_neg (by omega), f7 (by omega)]
            simp only [Option.map_map]
            congr 1
            funext x
            simp only [Function.comp, add_add]
            congr 1
            rw [Nat.add_mul]
          · cases hk
        · cases hk
      · cases hk
    · cases hk
  · cases hk
end
end Go.Proofs.YtgdaiifhedpffaaDoor.V
set_option linter.unusedVariables false
set_option linter.unusedSimpArgs false
namespace Go.Proofs.YtgdaiifhedpffaaDoor.V
open Go
def With (Im : Nat → Prop) (R : Real) (l : List Nat) : Nat → Prop := fun k => Im k ∨ ∃ r b rb, r ∈ l ∧ R r = some (b, rb) ∧ k ∈ keys (fragOf b rb)
theorem With.mono {Im : Nat → Prop} {R : Real} {l l' : List Nat} (h : ∀ r ∈ l, r ∈ l') : ∀ k, With Im R l k → With Im R l' k := by
  rintro k (h1 | ⟨r, b, rb, h1, h2, h3⟩)
  · exact .inl h1
  · exact .inr ⟨r, b, rb, h r h1, h2, h3⟩
section
variable {P : Program} {G : Gl} {st : St} {vs : Array Value} {w : World} {Im : Nat → Prop} {R : Real} {hand : Frag} {T : Type} {r0 : T} {E : Env}
theorem parse_ok : ∀ (t : Ty) {l l' : List Value} {x : den t}, parse t l = some (x, l') → ∃ cs, l = cs ++ l' ∧ Rep w Im t .ro x cs [] ∧ (∀ m, Rep w Im t (fitM t m) x cs []) := by
  intro t
  induction t with
  | int k =>
    intro l l' x h
    cases l with
    | nil => simp [parse] at h
    | cons v l =>
      cases v <;> simp [parse] at h
      obtain ⟨rfl, rfl, rfl⟩ := h
      exact ⟨[_], rfl, ⟨rfl, rfl⟩, fun m => by cases m <;> exact ⟨rfl, rfl⟩⟩
  | bool =>
    intro l l' x h
    cases l with
    | nil => simp [parse] at h
    | cons v l =>
      cases v <;> simp [parse] at h
      obtain ⟨rfl, rfl⟩ := h
      exact ⟨[_], rfl, ⟨rfl, rfl⟩, fun m => by cases m <;> exact ⟨rfl, rfl⟩⟩
  | str =>
    intro l l' x h
    cases l with
    | nil => simp [parse] at h
    | cons v l =>
      cases v <;> simp [parse] at h
      obtain ⟨rfl, rfl⟩ := h
      exact ⟨[_], rfl, ⟨rfl, rfl⟩, fun m => by cases m <;> exact ⟨rfl, rfl⟩⟩
  | raw => intro l l' x h; cases l <;> simp [parse] at h
  | mp k v =>
    intro l l' x h
    cases l with
    | nil => simp [parse] at h
    | cons u l =>
      cases u with
      | map a =>
        cases a <;> simp [parse] at h
        obtain ⟨rfl, rfl⟩ := h
        refine ⟨[_], rfl, ⟨rfl, .inl ⟨rfl, rfl⟩⟩, fun m => ?_⟩
        cases m with
        | own m => exact .inl ⟨rfl, rfl, rfl, rfl⟩
        | _ => exact ⟨rfl, .inl ⟨rfl, rfl⟩⟩
      | _ => simp [parse] at h
  | unit =>
    intro l l' x h
    simp [parse] at h
    obtain ⟨_, rfl⟩ := h
    exact ⟨[], rfl, ⟨rfl, rfl⟩, fun m => by cases m <;> exact ⟨rfl, rfl⟩⟩
  | pair a b iha ihb =>
    intro l l' x h
    simp only [parse] at h
    split at h
    · rename_i x1 l1 h1
      split at h
      · rename_i y l2 h2
        simp at h
        obtain ⟨rfl, rfl⟩ := h
        obtain ⟨c1, e1, r1, s1⟩ := iha h1
        obtain ⟨c2, e2, r2, s2⟩ := ihb h2
        subst e2; subst e1
        refine ⟨c1 ++ c2, by simp, ⟨c1, c2, [], [], rfl, rfl, r1, r2⟩, fun m => ?_⟩
        cases m with
        | ro => exact ⟨c1, c2, [], [], rfl, rfl, r1, r2⟩
        | _ => exact ⟨c1, c2, [], [], rfl, rfl, s1 _, s2 _⟩
      · cases h
    · cases h
  | slc t ih =>
    intro l l' x h
    cases l with
    | nil => simp [parse] at h
    | cons v l =>
      cases v with
      | slice a len cap =>
        cases a <;> cases len <;> cases cap <;> simp [parse] at h
        obtain ⟨rfl, rfl⟩ := h
        refine ⟨[_], rfl, ⟨rfl, none, 0, rfl, Nat.le_refl _, fun h => absurd rfl h⟩, fun m => ?_⟩
        cases m with
        | own m => exact .inl ⟨rfl, ⟨none, rfl⟩, rfl⟩
        | rz => exact ⟨⟨rfl, none, 0, rfl, Nat.le_refl _, fun h => absurd rfl h⟩, fun _ => rfl⟩
        | _ => exact ⟨rfl, none, 0, rfl, Nat.le_refl _, fun h => absurd rfl h⟩
      | _ => simp [parse] at h
theorem Rep.cast {t t' : Ty} (e : t = t') {m : Md} {x : den t} {cs : List Value} {h : Frag} (r : Rep w Im t m x cs h) : Rep w Im t' m (e ▸ x) cs h := by subst e; exact r
theorem Inv.grow (h : Inv G st vs w Im R hand) (l : List Nat) : Grow w w Im (With Im R l) := ⟨fun k hk => .inl hk, fun _ _ => rfl⟩
theorem look_some (h : Inv G st vs w Im R hand) : ∀ {s : SV} {t : Ty} {K : den t → Option T} {cs : List Value}, look st.boxes s t K = some r0 → SVX w Im R s false cs →
    ∃ x, K x = some r0 ∧ Rep w (With Im R (roots s)) t .ro x cs [] := by
  intro s
  induction s with
  | con t' x =>
    intro t K cs hk hs
    simp only [look] at hk
    split at hk
    · rename_i e
      subst e
      exact ⟨_, hk, Rep.grow (h.grow _) hs⟩
    · cases hk
  | raw v =>
    intro t K cs hk hs
    simp only [look] at hk
    split at hk
    · rename_i x hp
      obtain ⟨c1, e, r, _⟩ := parse_ok (w := w) (Im := With Im R (roots (.raw v))) t hp
      have hs : cs = v.cells.toList := hs
      rw [hs, e]; simp
      exact ⟨x, hk, r⟩
    · cases hk
  | emp =>
    intro t K cs hk hs
    cases t <;> simp [look] at hk
    obtain ⟨A, e⟩ := hs
    exact ⟨_, hk, rfl, A, 0, e, Nat.le_refl _, fun h => absurd rfl h⟩
  | agg a b iha ihb =>
    intro t K cs hk hs
    cases t <;> simp only [look, reduceCtorEq] at hk
    obtain ⟨c1, c2, e, h1, h2⟩ := hs
    obtain ⟨x, hk, r1⟩ := iha hk h1
    obtain ⟨y, hk, r2⟩ := ihb hk h2
    exact ⟨_, hk, c1, c2, [], [], e, rfl, r1.frame (With.mono fun r hr => by simp [roots, hr]) (fun _ _ => rfl), r2.frame (With.mono fun r hr => by simp [roots, hr]) (fun _ _ => rfl)⟩
  | ref r q =>
    intro t K cs hk hs
    simp only [look] at hk
    split at hk
    · rename_i b hb
      split at hk
      · rename_i e
        split at hk
        · rename_i hl
          obtain ⟨v, e1, hr⟩ := hs
          subst e1
          obtain ⟨h1, rb, hrr, n2, n3⟩ := h.ref hb hr
          refine ⟨_, hk, Rep.cast e ?_⟩
          refine Rep.freeze (w' := w) hl (fun k hk => .inl hk) (fun _ _ => rfl) (fun p hp => ⟨.inr ⟨r, b, rb, by simp [roots], hrr, keys_mem.2 ⟨p, fragOf_sub p (n3 p hp), rfl⟩⟩, ?_⟩) n2
          exact h.heapOK hrr p (fragOf_sub p (n3 p hp))
        · cases hk
      · cases hk
    · cases hk
  | sub r q lo n =>
    intro t K cs hk hs
    cases t with
    | slc t =>
      simp only [look] at hk
      split at hk
      · rename_i b hb
        split at hk
        · rename_i e
          split at hk
          · rename_i hl
            obtain ⟨v, e1, u, hr, hsub⟩ := hs
            subst e1
            obtain ⟨h1, rb, hrr, n2, n3⟩ := h.ref hb hr
            obtain ⟨t2, A, len, cap, A', cap', f1, f2, f3, f4, f5, f6, f7⟩ := hsub b rb hrr
            rw [e] at f1; injection f1 with f1; subst f1
            have hf : Rep w (With Im R (roots (.sub r q lo n))) (.slc t) .ro (e ▸ cget b.t b.x q) [u] [] := by
              refine Rep.cast e (Rep.freeze (w' := w) hl (fun k hk => .inl hk) (fun _ _ => rfl) (fun p hp => ⟨.inr ⟨r, b, rb, by simp [roots], hrr, keys_mem.2 ⟨p, fragOf_sub p (n3 p hp), rfl⟩⟩, ?_⟩) n2)
              exact h.heapOK hrr p (fragOf_sub p (n3 p hp))
            rw [f2] at hf
            obtain ⟨A2, cap2, g1, g2⟩ := Rep.roLen hf
            injection g1 with g1 g3 g4
            refine ⟨_, hk, ?_⟩
            rw [f3]
            exact Rep.part hf (by omega) f5 f7
          · cases hk
        · cases hk
      · cases hk
    | _ => simp [look] at hk
  | _ => intro t K cs hk hs; cases t <;> simp [look] at hk
end
end Go.Proofs.YtgdaiifhedpffaaDoor.V
