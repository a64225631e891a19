/- How slots and boxes stand to a memory. -/
import Derived.Test.YtlgbhaigpecdoaaVRun
set_option linter.unusedVariables false
set_option linter.unusedSimpArgs false
namespace Go.Proofs.Ytlgbhaigpecdoaa.V
open Go

/-! ### Ways in a memory -/
def navStep (w : World) : Ty → List Value → Option (Nat × Nat) → Step → Option (List Value × Option (Nat × Nat))
  | .pair a _, cs, ad, .fst => some (cs.take (sz a), ad)
  | .pair a _, cs, ad, .snd => some (cs.drop (sz a), ad.map fun p => (p.1, p.2 + sz a))
  | .slc t, cs, _, .idx i => match cs with
    | [.slice (some ⟨b, o, none⟩) _ _] => match w.heap[b]? with
      | some (.cells c _ _) => some ((c.toList.drop (o + i * sz t)).take (sz t), some (b, o + i * sz t))
      | _ => none
    | _ => none
  | _, _, _, _ => none
def nav (w : World) : Ty → List Value → Option (Nat × Nat) → Path → Option (List Value × Option (Nat × Nat))
  | _, cs, ad, [] => some (cs, ad)
  | t, cs, ad, s :: q => match navStep w t cs ad s with
    | some p => nav w (tstep t s) p.1 p.2 q
    | none => none
def VStep : (t : Ty) → den t → Md → Step → Prop
  | .pair _ _, _, _, .fst => True
  | .pair _ _, _, _, .snd => True
  | .slc _, x, m, .idx i => i < List.length x ∧ ∃ me, m = .own me
  | _, _, _, _ => False
def Valid : (t : Ty) → den t → Md → Path → Prop
  | _, _, _, [] => True
  | t, x, m, s :: q => VStep t x m s ∧ Valid (tstep t s) (vstep t x s) (m.step s) q

structure RB where
  blk : Nat
  cs : List Value
  h : Frag
abbrev Real := Nat → Option (Bx × RB)
def blkOf (b : Bx) (r : RB) : Nat := b.pin.getD r.blk
def locOf (b : Bx) (r : RB) : Option (Nat × Nat) := b.mem.map fun _ => (blkOf b r, 0)
def fragOf (b : Bx) (r : RB) : Frag := match b.mem with
  | some e => (blkOf b r, (r.cs.toArray, e)) :: r.h
  | none => r.h

def RefOK (w : World) (R : Real) (r : Nat) (q : Path) (v : Value) : Prop :=
  ∀ b rb, R r = some (b, rb) → Valid b.t b.x b.m q ∧ (∃ t, ctype b.t q = .slc t) ∧ ∃ ad, nav w b.t rb.cs (locOf b rb) q = some ([v], ad)
def SubOK (w : World) (R : Real) (r : Nat) (q : Path) (lo n : Nat) (v : Value) : Prop :=
  ∃ u, RefOK w R r q u ∧ ∀ b rb, R r = some (b, rb) → ∃ t A len cap A' cap', ctype b.t q = .slc t ∧ u = .slice A len cap ∧ v = .slice A' n cap' ∧ lo + n ≤ len ∧ n ≤ cap' ∧ lo + cap' ≤ cap ∧
    (0 < cap' → A' = A.map fun a => a.add (lo * sz t))
def PtrOK (w : World) (R : Real) (r : Nat) (q : Path) (v : Value) : Prop :=
  ∀ b rb, R r = some (b, rb) → Valid b.t b.x b.m q ∧ ∃ cs b' o, nav w b.t rb.cs (locOf b rb) q = some (cs, some (b', o)) ∧ v = .pointer (some ⟨b', o, none⟩)

/-- false: the cells that it is; true: the values that the results are. -/
def SVX (w : World) (Im : Nat → Prop) (R : Real) : SV → Bool → List Value → Prop
  | .undef, _, cs => cs.length = 1
  | .con t x, _, cs => Rep w Im t .ro x cs []
  | .raw v, _, cs => cs = v.cells.toList
  | .emp, _, cs => ∃ A, cs = [.slice A 0 0]
  | .agg a b, _, cs => ∃ c1 c2, cs = c1 ++ c2 ∧ SVX w Im R a false c1 ∧ SVX w Im R b false c2
  | .ref r q, _, cs => ∃ v, cs = [v] ∧ RefOK w R r q v
  | .sub r q lo n, _, cs => ∃ v, cs = [v] ∧ SubOK w R r q lo n v
  | .ptr r q, _, cs => ∃ v, cs = [v] ∧ PtrOK w R r q v
  | .pro t x, _, cs => ∃ b o c e fz, cs = [.pointer (some ⟨b, o, none⟩)] ∧ Im b ∧ w.heap[b]? = some (.cells c e fz) ∧ Rep w Im t .ro x ((c.toList.drop o).take (sz t)) []
  | .fn f c, _, cs => ∃ caps : Array Value, cs = [.func (.func f) #[] caps] ∧ SVX w Im R c true caps.toList
  | .tnil, b, vs => b = true ∧ vs = []
  | .tcons a s, b, vs => b = true ∧ ∃ v vs', vs = v :: vs' ∧ (a = .undef ∨ ∃ cs, (if isAgg a = true then v = .agg cs.toArray else cs = [v]) ∧ SVX w Im R a false cs) ∧ SVX w Im R s true vs'
/-- What a slot holds. -/
def SVV (w : World) (Im : Nat → Prop) (R : Real) (s : SV) (v : Value) : Prop :=
  s = .undef ∨ (∃ vs : Array Value, v = .tuple vs ∧ SVX w Im R s true vs.toList ∧ (s = .tnil ∨ ∃ a b, s = .tcons a b)) ∨
  (∃ cs, (if isAgg s = true then v = .agg cs.toArray else cs = [v]) ∧ SVX w Im R s false cs)

theorem isAgg_forget (p : Bool → Nat → Path → Bool) (s : SV) : isAgg (forget p s) = isAgg s := by
  cases s <;> simp only [forget] <;> (try rfl) <;> split <;> rfl
theorem SVX.forget {w w' : World} {Im Im' : Nat → Prop} {R R' : Real} {p : Bool → Nat → Path → Bool} (hi : ∀ b, Im b → Im' b) (hw : ∀ b, Im b → w'.heap[b]? = w.heap[b]?)
    (hr : ∀ r q v, p false r q = false → RefOK w R r q v → RefOK w' R' r q v)
    (hs : ∀ r q lo n v, p false r q = false → SubOK w R r q lo n v → SubOK w' R' r q lo n v)
    (hp : ∀ r q v, p true r q = false → PtrOK w R r q v → PtrOK w' R' r q v) :
    ∀ {s : SV} {b : Bool} {cs : List Value}, SVX w Im R s b cs → SVX w' Im' R' (V.forget p s) b cs
  | .undef, _, _, h => h
  | .con t x, _, _, h => Rep.frame hi hw h
  | .raw v, _, _, h => h
  | .emp, _, _, h => h
  | .agg a b, _, _, ⟨c1, c2, e, h1, h2⟩ => ⟨c1, c2, e, h1.forget hi hw hr hs hp, h2.forget hi hw hr hs hp⟩
  | .ref r q, _, cs, ⟨v, e, h⟩ => by
    simp only [V.forget]
    split
    · simp [SVX, e]
    · rename_i hh; exact ⟨v, e, hr _ _ _ (by simpa using hh) h⟩
  | .sub r q lo n, _, cs, ⟨v, e, h⟩ => by
    simp only [V.forget]
    split
    · simp [SVX, e]
    · rename_i hh; exact ⟨v, e, hs _ _ _ _ _ (by simpa using hh) h⟩
  | .ptr r q, _, cs, ⟨v, e, h⟩ => by
    simp only [V.forget]
    split
    · simp [SVX, e]
    · rename_i hh; exact ⟨v, e, hp _ _ _ (by simpa using hh) h⟩
  | .pro t x, _, _, ⟨b, o, c, e, fz, e1, e2, e3, h⟩ => ⟨b, o, c, e, fz, e1, hi b e2, (hw b e2).trans e3, Rep.frame hi hw h⟩
  | .fn f c, _, _, ⟨caps, e, h⟩ => ⟨caps, e, h.forget hi hw hr hs hp⟩
  | .tnil, _, _, h => h
  | .tcons a s, _, _, ⟨e0, v, vs', e, h1, h2⟩ => by
    refine ⟨e0, v, vs', e, ?_, h2.forget hi hw hr hs hp⟩
    rcases h1 with h1 | ⟨cs, e1, h1⟩
    · subst h1; exact .inl rfl
    · exact .inr ⟨cs, by rw [isAgg_forget]; exact e1, h1.forget hi hw hr hs hp⟩
theorem SVV.forget {w w' : World} {Im Im' : Nat → Prop} {R R' : Real} {p : Bool → Nat → Path → Bool} (hi : ∀ b, Im b → Im' b) (hw : ∀ b, Im b → w'.heap[b]? = w.heap[b]?)
    (hr : ∀ r q v, p false r q = false → RefOK w R r q v → RefOK w' R' r q v)
    (hs : ∀ r q lo n v, p false r q = false → SubOK w R r q lo n v → SubOK w' R' r q lo n v)
    (hp : ∀ r q v, p true r q = false → PtrOK w R r q v → PtrOK w' R' r q v)
    {s : SV} {v : Value} (h : SVV w Im R s v) : SVV w' Im' R' (V.forget p s) v := by
  rcases h with h | ⟨vs, e, h, h2⟩ | ⟨cs, e, h⟩
  · subst h; exact .inl rfl
  · refine .inr (.inl ⟨vs, e, h.forget hi hw hr hs hp, ?_⟩)
    rcases h2 with h2 | ⟨a, b, h2⟩ <;> subst h2
    · exact .inl rfl
    · exact .inr ⟨_, _, rfl⟩
  · exact .inr (.inr ⟨cs, by rw [isAgg_forget]; exact e, h.forget hi hw hr hs hp⟩)
theorem forget_none (s : SV) : V.forget (fun _ _ _ => false) s = s := by
  induction s with
  | agg a b iha ihb => simp [V.forget, iha, ihb]
  | tcons a b iha ihb => simp [V.forget, iha, ihb]
  | fn f c ih => simp [V.forget, ih]
  | _ => simp [V.forget]
theorem SVV.same {w w' : World} {Im Im' : Nat → Prop} {R R' : Real} (hi : ∀ b, Im b → Im' b) (hw : ∀ b, Im b → w'.heap[b]? = w.heap[b]?)
    (hr : ∀ r q v, RefOK w R r q v → RefOK w' R' r q v) (hs : ∀ r q lo n v, SubOK w R r q lo n v → SubOK w' R' r q lo n v)
    (hp : ∀ r q v, PtrOK w R r q v → PtrOK w' R' r q v) {s : SV} {v : Value} (h : SVV w Im R s v) : SVV w' Im' R' s v := by
  have := h.forget (p := fun _ _ _ => false) hi hw (fun r q v _ => hr r q v) (fun r q lo n v _ => hs r q lo n v) (fun r q v _ => hp r q v)
  rwa [forget_none] at this
theorem SVX.same {w w' : World} {Im Im' : Nat → Prop} {R R' : Real} (hi : ∀ b, Im b → Im' b) (hw : ∀ b, Im b → w'.heap[b]? = w.heap[b]?)
    (hr : ∀ r q v, RefOK w R r q v → RefOK w' R' r q v) (hs : ∀ r q lo n v, SubOK w R r q lo n v → SubOK w' R' r q lo n v)
    (hp : ∀ r q v, PtrOK w R r q v → PtrOK w' R' r q v) {s : SV} {b : Bool} {cs : List Value} (h : SVX w Im R s b cs) : SVX w' Im' R' s b cs := by
  have := h.forget (p := fun _ _ _ => false) hi hw (fun r q v _ => hr r q v) (fun r q lo n v _ => hs r q lo n v) (fun r q v _ => hp r q v)
  rwa [forget_none] at this

/-! ### The whole -/
/-- The call began in w0; ks: the blocks that it was given to turn. -/
structure Gl where
  w0 : World
  ks : List Nat
  im0 : Nat → Prop
structure Keep (G : Gl) (w : World) : Prop where
  os : w.os = G.w0.os
  tape : w.tape = G.w0.tape
  output : w.output = G.w0.output
  size : G.w0.heap.size ≤ w.heap.size
  block : ∀ b, b < G.w0.heap.size → b ∉ G.ks → w.heap[b]? = G.w0.heap[b]?
structure Sep (G : Gl) (O : Nat → Frag) (w : World) (Im : Nat → Prop) : Prop where
  nod : ∀ i, (keys (O i)).Nodup
  sep : ∀ i j, i ≠ j → ∀ k ∈ keys (O i), k ∉ keys (O j)
  heap : ∀ i, ∀ p ∈ O i, w.heap[p.1]? = some (.cells p.2.1 p.2.2 (0, 0))
  im : ∀ i, ∀ k ∈ keys (O i), ¬ Im k
  fresh : ∀ i, ∀ k ∈ keys (O i), G.w0.heap.size ≤ k ∨ k ∈ G.ks
  imlt : ∀ k, Im k → k < w.heap.size
  imok : ∀ k, Im k → G.im0 k ∨ G.w0.heap.size ≤ k ∨ k ∈ G.ks
/-- What each box owns; 0: what is in hand. -/
def own (R : Real) (hand : Frag) : Nat → Frag
  | 0 => hand
  | i + 1 => match R i with
    | some p => fragOf p.1 p.2
    | none => []
structure Inv (G : Gl) (st : St) (vs : Array Value) (w : World) (Im : Nat → Prop) (R : Real) (hand : Frag) : Prop where
  box : ∀ i, bget st.boxes i = (R i).map (·.1)
  rep : ∀ i b r, R i = some (b, r) → Rep w Im b.t b.m b.x r.cs r.h
  sep : Sep G (own R hand) w Im
  slots : ∀ n, SVV w Im R (sget st.slots n) (vs.getD n undef)
  len : st.slots.length = vs.size
  keep : Keep G w
end Go.Proofs.Ytlgbhaigpecdoaa.V
