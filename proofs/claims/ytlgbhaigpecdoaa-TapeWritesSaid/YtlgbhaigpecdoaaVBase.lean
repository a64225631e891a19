/- Slots that are set, operands, and operations that give a value and leave the memory alone. -/
import Derived.Test.YtlgbhaigpecdoaaVFocus
import Derived.WalkKit
set_option linter.unusedVariables false
set_option linter.unusedSimpArgs false
namespace Go.Proofs.Ytlgbhaigpecdoaa.V
open Go

theorem sset_length : ∀ (l : List SV) (i : Nat) (s : SV), (sset l i s).length = l.length
  | [], _, _ => rfl
  | _ :: _, 0, _ => rfl
  | _ :: l, n + 1, s => by simp [sset, sset_length l n s]
theorem sget_sset : ∀ (l : List SV) (i n : Nat) (s : SV), sget (sset l i s) n = if n = i ∧ i < l.length then s else sget l n
  | [], i, n, s => by simp [sset, sget]
  | a :: l, 0, 0, s => by simp [sset, sget]
  | a :: l, 0, n + 1, s => by simp [sset, sget]
  | a :: l, i + 1, 0, s => by simp [sset, sget]
  | a :: l, i + 1, n + 1, s => by simp [sset, sget, sget_sset l i n s]
theorem sget_out : ∀ (l : List SV) (n : Nat), l.length ≤ n → sget l n = .undef
  | [], _, _ => rfl
  | a :: l, 0, h => by simp at h
  | a :: l, n + 1, h => by simpa [sget] using sget_out l n (by simpa using h)
theorem sget_map (p : Bool → Nat → Path → Bool) : ∀ (l : List SV) (n : Nat), sget (l.map (forget p)) n = forget p (sget l n)
  | [], n => by simp [sget, forget]
  | a :: l, 0 => by simp [sget]
  | a :: l, n + 1 => by simpa [sget] using sget_map p l n

section
variable {G : Gl} {st : St} {vs : Array Value} {w : World} {Im : Nat → Prop} {R : Real} {hand : Frag}
theorem SVV.ofAny (v : Value) : SVV w Im R .undef v := .inl rfl
theorem SVV.ofCells {s : SV} {cs : List Value} (h : SVX w Im R s false cs) (hs : isAgg s = true) : SVV w Im R s (.agg cs.toArray) := .inr (.inr ⟨cs, by rw [if_pos hs], h⟩)
theorem SVV.ofCell {s : SV} {v : Value} (h : SVX w Im R s false [v]) (hs : isAgg s = false) : SVV w Im R s v := .inr (.inr ⟨[v], by rw [if_neg (by simp [hs])], h⟩)
theorem SVV.cells {s : SV} {v : Value} (h : SVV w Im R s v) (h1 : s ≠ .undef) (h2 : s ≠ .tnil) (h3 : ∀ a b, s ≠ .tcons a b) : ∃ cs, (if isAgg s = true then v = .agg cs.toArray else cs = [v]) ∧ SVX w Im R s false cs := by
  rcases h with h | ⟨vs, _, _, h⟩ | h
  · exact absurd h h1
  · rcases h with h | ⟨a, b, h⟩
    · exact absurd h h2
    · exact absurd h (h3 a b)
  · exact h
/-- A slot that holds one cell. -/
theorem SVV.cell {s : SV} {v : Value} (h : SVV w Im R s v) (h1 : s ≠ .undef) (h2 : s ≠ .tnil) (h3 : ∀ a b, s ≠ .tcons a b) (h4 : isAgg s = false) : SVX w Im R s false [v] := by
  obtain ⟨cs, e, h⟩ := h.cells h1 h2 h3
  rw [if_neg (by simp [h4])] at e
  subst e; exact h
theorem SVV.int {k : IntKind} {n : Int} {v : Value} (h : SVV w Im R (.con (.int k) n) v) : v = .int k n := by
  have := h.cell (by simp) (by simp) (by simp) rfl
  simpa [SVX, Rep] using this
theorem SVV.bool {b : Bool} {v : Value} (h : SVV w Im R (.con .bool b) v) : v = .bool b := by
  have := h.cell (by simp) (by simp) (by simp) rfl
  simpa [SVX, Rep] using this
theorem SVV.str {s : ByteArray} {v : Value} (h : SVV w Im R (.con .str s) v) : v = .string s := by
  have := h.cell (by simp) (by simp) (by simp) rfl
  simpa [SVX, Rep] using this
theorem SVV.ofInt (k : IntKind) (n : Int) : SVV w Im R (.con (.int k) n) (.int k n) := .ofCell ⟨rfl, rfl⟩ rfl
theorem SVV.ofBool (b : Bool) : SVV w Im R (.con .bool b) (.bool b) := .ofCell ⟨rfl, rfl⟩ rfl
theorem SVV.ofStr (s : ByteArray) : SVV w Im R (.con .str s) (.string s) := .ofCell ⟨rfl, rfl⟩ rfl
theorem SVV.raw {u v : Value} (h : SVV w Im R (.raw u) v) : v = u := by
  obtain ⟨cs, e, h⟩ := h.cells (by simp) (by simp) (by simp)
  simp only [SVX] at h
  subst h
  cases u <;> simp_all [isAgg, Value.cells]
theorem SVV.ofRaw (v : Value) : SVV w Im R (.raw v) v := by
  refine .inr (.inr ⟨v.cells.toList, ?_, rfl⟩)
  cases v <;> simp [isAgg, Value.cells]
theorem SVV.tnil_iff {v : Value} (h : SVV w Im R .tnil v) : v = Go.undef := by
  rcases h with h | ⟨vs, e, h, _⟩ | ⟨cs, _, h⟩
  · cases h
  · simp only [SVX, true_and] at h
    rw [e]; simp [Go.undef, Array.toList_eq_nil_iff] at h ⊢; exact h
  · simp [SVX] at h
theorem SVV.ofUndef : SVV w Im R .tnil Go.undef := .inr (.inl ⟨#[], rfl, ⟨rfl, rfl⟩, .inl rfl⟩)
theorem ofConst_ok (v : Value) : SVV w Im R (ofConst v) v := by
  unfold ofConst
  split
  · exact .ofInt _ _
  · exact .ofBool _
  · exact .ofStr _
  · exact .ofRaw _
theorem Inv.ev {a : Act} (h : Inv G st a.tmps w Im R hand) (x : Operand) : SVV w Im R (st.ev x) (a.eval x) := by
  cases x with
  | tmp t => exact h.slots t
  | const v => exact ofConst_ok v
  | global g => exact .inl rfl
  | func f => exact .ofCell ⟨#[], rfl, by simp [SVX]⟩ rfl
theorem getD_setIfInBounds (vs : Array Value) (i n : Nat) (v d : Value) : (vs.setIfInBounds i v).getD n d = if n = i ∧ i < vs.size then v else vs.getD n d := by
  simp only [Array.getD_eq_getD_getElem?, Array.getElem?_setIfInBounds]
  by_cases h : i = n
  · subst h
    by_cases h2 : i < vs.size
    · simp [h2]
    · simp [h2]
  · simp [h, Ne.symm h]
theorem Inv.put {a : Act} (h : Inv G st a.tmps w Im R hand) (d : Option Tmp) {s : SV} {v : Value} (hs : SVV w Im R s v) : Inv G (st.set d s) (a.put d v).tmps w Im R hand := by
  cases d with
  | none => exact h
  | some i =>
    refine ⟨h.box, h.rep, h.sep, fun n => ?_, ?_, h.keep⟩
    · show SVV w Im R (sget (sset st.slots i s) n) ((a.tmps.setIfInBounds i v).getD n Go.undef)
      rw [sget_sset, getD_setIfInBounds, h.len]
      split
      · exact hs
      · exact h.slots n
    · show (sset st.slots i s).length = (a.tmps.setIfInBounds i v).size
      rw [sset_length, Array.size_setIfInBounds]; exact h.len
end

/-- What holds at each point of a function's run. -/
def Ok (G : Gl) (I0 : Nat → Prop) (st : St) (a : Act) (w : World) : Prop :=
  a.defers = [] ∧ ∃ Im R, (∀ b, I0 b → Im b) ∧ Inv G st a.tmps w Im R []
abbrev Post (G : Gl) (I0 : Nat → Prop) {Q : Type} (K : St → Option Q) (r : Q) : Act → World → Prop := fun a w => ∃ st, K st = some r ∧ Ok G I0 st a w

theorem put_defers (a : Act) (d : Option Tmp) (v : Value) : (a.put d v).defers = a.defers := by cases d <;> rfl
section
variable {P : Program} {G : Gl} {I0 : Nat → Prop} {st : St} {a : Act} {w : World} {o : Oper} {T : Type} {K : St → Option T} {r : T} {Q : Exit → Act → World → Prop}
theorem wp_value {s : SV} {v : Value} {Im : Nat → Prop} {R : Real} (hrun : (execOp a.eval o).run P w = .ok (.value v) w) (hd : a.defers = []) (hI : ∀ b, I0 b → Im b) (h : Inv G st a.tmps w Im R []) (hs : SVV w Im R s v)
    (hK : K (st.set o.dst s) = some r) : o.wp P a w (Post G I0 K r) Q := by
  unfold Oper.wp
  rw [hrun]
  exact ⟨_, hK, by rw [put_defers]; exact hd, Im, R, hI, h.put o.dst hs⟩
end
end Go.Proofs.Ytlgbhaigpecdoaa.V
