/- Types of plain data, their readings in a memory: what is looked at and what is owned. Nothing here speaks of a program. -/
import Derived.Below
import Derived.Deep.MidRow
import Derived.Laws.CopyRow
import Derived.Laws.AppendOwn
set_option linter.unusedVariables false
set_option linter.unusedSimpArgs false
namespace Go.Proofs.YtgdaiifhedpffaaDoor.V
open Go
inductive Ty where
  | int (k : IntKind)
  | bool
  | str
  | raw
  | unit
  | pair (a b : Ty)
  | slc (t : Ty)
  | mp (k v : Ty)
  deriving DecidableEq
@[reducible] def den : Ty → Type
  | .int _ => Int
  | .bool => Bool
  | .str => ByteArray
  | .raw => Value
  | .unit => Unit
  | .pair a b => den a × den b
  | .slc t => List (den t)
  | .mp k v => List (den k × den v)
def dflt : (t : Ty) → den t
  | .int _ => (0 : Int)
  | .bool => false
  | .str => ByteArray.empty
  | .raw => Value.nilIface
  | .unit => ()
  | .pair a b => (dflt a, dflt b)
  | .slc t => ([] : List (den t))
  | .mp k v => ([] : List (den k × den v))
def sz : Ty → Nat
  | .int _ => 1
  | .bool => 1
  | .str => 1
  | .raw => 1
  | .unit => 0
  | .pair a b => sz a + sz b
  | .slc _ => 1
  | .mp _ _ => 1
inductive Md where
  | ro
  | own (m : Md)
  | pair (a b : Md)
  | dead
  /-- it is looked at, and nil where it is empty -/
  | rz
  deriving DecidableEq
def Md.fst : Md → Md
  | .ro => .ro
  | .pair a _ => a
  | _ => .dead
def Md.snd : Md → Md
  | .ro => .ro
  | .pair _ b => b
  | _ => .dead
def Md.elem : Md → Md
  | .ro => .ro
  | .own m => m
  | _ => .dead
abbrev Frag := List (Nat × Obj)
def keys (h : Frag) : List Nat := h.map (·.1)
theorem keys_append (a b : Frag) : keys (a ++ b) = keys a ++ keys b := by simp [keys]
theorem keys_cons (p : Nat × Obj) (b : Frag) : keys (p :: b) = p.1 :: keys b := by simp [keys]
def RepL {α : Type} (f : α → List Value → Frag → Prop) : List α → List Value → Frag → Prop
  | [], _, h => h = []
  | x :: xs, cs, h => ∃ c1 c2 h1 h2, cs = c1 ++ c2 ∧ h = h1 ++ h2 ∧ f x c1 h1 ∧ RepL f xs c2 h2
def kv : (t : Ty) → den t → Value → Prop
  | .int k, x, v => v = .int k x
  | .bool, x, v => v = .bool x
  | .str, x, v => v = .string x
  | _, _, _ => False
def EntL {k : Ty} {α : Type} (f : α → Value → Prop) : List (den k × α) → List MapEntry → Prop
  | [], [] => True
  | p :: x, e :: es => kv k p.1 e.key ∧ f p.2 e.val ∧ EntL f x es
  | _, _ => False
def Rep (w : World) (Im : Nat → Prop) : (t : Ty) → Md → den t → List Value → Frag → Prop
  | .int k, _, x, cs, h => cs = [.int k x] ∧ h = []
  | .bool, _, x, cs, h => cs = [.bool x] ∧ h = []
  | .str, _, x, cs, h => cs = [.string x] ∧ h = []
  | .raw, _, x, cs, h => cs = [x] ∧ x.oneCell' = true ∧ h = []
  | .unit, _, _, cs, h => cs = [] ∧ h = []
  | .pair a b, m, x, cs, h => ∃ c1 c2 h1 h2, cs = c1 ++ c2 ∧ h = h1 ++ h2 ∧ Rep w Im a m.fst x.1 c1 h1 ∧ Rep w Im b m.snd x.2 c2 h2
  | .slc t, .ro, xs, cs, h => h = [] ∧ ∃ A cap, cs = [.slice A xs.length cap] ∧ xs.length ≤ cap ∧
      (xs ≠ [] → ∃ b o c e fz, A = some ⟨b, o, none⟩ ∧ Im b ∧ w.heap[b]? = some (.cells c e fz) ∧ RepL (fun x cs h => Rep w Im t .ro x cs h) xs (c.toList.drop o) [])
  | .slc t, .own m, xs, cs, h => (xs = [] ∧ (∃ A, cs = [.slice A 0 0]) ∧ h = []) ∨
      ∃ b o c e cap h', cs = [.slice (some ⟨b, o, none⟩) xs.length cap] ∧ h = (b, .cells c e) :: h' ∧ xs.length ≤ cap ∧ cap ≤ maxLen ∧ o + cap * sz t ≤ c.size ∧
        RepL (fun x cs h => Rep w Im t m x cs h) xs (c.toList.drop o) h'
  | .slc _, .dead, _, cs, h => (∃ v, cs = [v] ∧ v.oneCell' = true) ∧ h = []
  | .slc t, .rz, xs, cs, h => (h = [] ∧ ∃ A cap, cs = [.slice A xs.length cap] ∧ xs.length ≤ cap ∧
      (xs ≠ [] → ∃ b o c e fz, A = some ⟨b, o, none⟩ ∧ Im b ∧ w.heap[b]? = some (.cells c e fz) ∧ RepL (fun x cs h => Rep w Im t .ro x cs h) xs (c.toList.drop o) [])) ∧ (xs = [] → cs = [.slice none 0 0])
  | .slc _, .pair _ _, _, _, _ => False
  | .mp k v, .ro, x, cs, h => h = [] ∧ ((x = [] ∧ cs = [.map none]) ∨ ∃ b es clk, cs = [.map (some b)] ∧ Im b ∧ w.heap[b]? = some (.map es clk) ∧ EntL (k := k) (fun y c => Rep w Im v .ro y [c] []) x es.toList)
  | .mp k v, .own m, x, cs, h => (m = .ro ∧ x = [] ∧ cs = [.map none] ∧ h = []) ∨ ∃ b es clk, cs = [.map (some b)] ∧ h = [(b, .map es clk)] ∧ EntL (k := k) (fun y c => Rep w Im v .ro y [c] []) x es.toList
  | .mp _ _, .dead, _, cs, h => (∃ v, cs = [v] ∧ v.oneCell' = true) ∧ h = []
  | .mp _ _, .pair _ _, _, _, _ => False
  | .mp _ _, .rz, _, _, _ => False
theorem EntL.mono {k : Ty} {α : Type} {f g : α → Value → Prop} (hf : ∀ x c, f x c → g x c) : ∀ {x : List (den k × α)} {es : List MapEntry}, EntL f x es → EntL g x es
  | [], [], _ => trivial
  | _ :: _, _ :: _, ⟨h1, h2, h3⟩ => ⟨h1, hf _ _ h2, EntL.mono hf h3⟩
  | [], _ :: _, h => h.elim
  | _ :: _, [], h => h.elim
section lists
variable {α : Type} {f g : α → List Value → Frag → Prop} {n : Nat}
theorem RepL.mono (hf : ∀ x c h, f x c h → g x c h) : ∀ {xs : List α} {cs : List Value} {h : Frag}, RepL f xs cs h → RepL g xs cs h
  | [], _, _, r => r
  | _ :: _, _, _, ⟨c1, c2, h1, h2, e1, e2, r1, r2⟩ => ⟨c1, c2, h1, h2, e1, e2, hf _ _ _ r1, r2.mono hf⟩
theorem RepL.len (hn : ∀ x c h, f x c h → c.length = n) : ∀ {xs : List α} {cs : List Value} {h : Frag}, RepL f xs cs h → xs.length * n ≤ cs.length
  | [], _, _, _ => by simp
  | _ :: _, _, _, ⟨c1, c2, h1, h2, e1, e2, r1, r2⟩ => by
    have := hn _ _ _ r1; have := r2.len hn; subst e1; simp [Nat.add_mul]; omega
theorem RepL.cut (hn : ∀ x c h, f x c h → c.length = n) : ∀ {xs : List α} {cs ds : List Value} {h : Frag}, RepL f xs cs h → cs.take (xs.length * n) = ds.take (xs.length * n) → RepL f xs ds h
  | [], _, _, _, r, _ => r
  | x :: xs, _, ds, _, ⟨c1, c2, h1, h2, e1, e2, r1, r2⟩, e => by
    subst e1; subst e2
    have hl := hn _ _ _ r1
    have hk : (x :: xs).length * n = c1.length + xs.length * n := by simp [Nat.add_mul, hl]; omega
    rw [hk] at e
    have e3 : ds.take c1.length = c1 := by
      have := congrArg (List.take c1.length) e
      rw [List.take_take, List.take_take, Nat.min_eq_left (by omega)] at this
      rw [← this]; simp
    have e4 : ds.drop c1.length = (ds.drop c1.length) := rfl
    have e5 : c2.take (xs.length * n) = (ds.drop c1.length).take (xs.length * n) := by
      have := congrArg (List.drop c1.length) e
      rw [List.drop_take, List.drop_take] at this
      simpa using this
    exact ⟨c1, ds.drop c1.length, h1, h2, by rw [← List.take_append_drop c1.length ds, e3]; simp, rfl, r1, r2.cut hn e5⟩
theorem RepL.split (hn : ∀ x c h, f x c h → c.length = n) : ∀ {xs : List α} {cs : List Value} {h : Frag} (k : Nat), RepL f xs cs h → k ≤ xs.length →
    ∃ h1 h2, h = h1 ++ h2 ∧ RepL f (xs.take k) cs h1 ∧ RepL f (xs.drop k) (cs.drop (k * n)) h2
  | xs, cs, h, 0, r, _ => ⟨[], h, by simp, by simp [RepL], by simpa using r⟩
  | [], cs, h, k + 1, r, hk => by simp at hk
  | x :: xs, _, _, k + 1, ⟨c1, c2, h1, h2, e1, e2, r1, r2⟩, hk => by
    subst e1; subst e2
    obtain ⟨g1, g2, e, s1, s2⟩ := r2.split hn k (by simpa using hk)
    subst e
    have hl := hn _ _ _ r1
    refine ⟨h1 ++ g1, g2, by simp, ⟨c1, c2, h1, g1, rfl, rfl, r1, s1⟩, ?_⟩
    have : (k + 1) * n = c1.length + k * n := by rw [Nat.add_mul, hl]; omega
    rw [this, ← List.drop_drop]
    simpa using s2
theorem RepL.app (hn : ∀ x c h, f x c h → c.length = n) : ∀ {xs ys : List α} {cs ds : List Value} {h k : Frag}, RepL f xs cs h → RepL f ys (ds.drop (xs.length * n)) k → cs.take (xs.length * n) = ds.take (xs.length * n) → RepL f (xs ++ ys) ds (h ++ k)
  | [], ys, cs, ds, h, k, r, s, _ => by
    have r : h = [] := r
    subst r; simpa using s
  | x :: xs, ys, _, ds, _, k, ⟨c1, c2, h1, h2, e1, e2, r1, r2⟩, s, e => by
    subst e1; subst e2
    have hl := hn _ _ _ r1
    have hk : (x :: xs).length * n = c1.length + xs.length * n := by simp [Nat.add_mul, hl]; omega
    rw [hk] at e s
    have e3 : ds.take c1.length = c1 := by
      have := congrArg (List.take c1.length) e
      rw [List.take_take, List.take_take, Nat.min_eq_left (by omega)] at this
      rw [← this]; simp
    have e5 : c2.take (xs.length * n) = (ds.drop c1.length).take (xs.length * n) := by
      have := congrArg (List.drop c1.length) e
      rw [List.drop_take, List.drop_take] at this
      simpa using this
    refine ⟨c1, ds.drop c1.length, h1, h2 ++ k, by rw [← List.take_append_drop c1.length ds, e3]; simp, by simp, r1, r2.app hn ?_ e5⟩
    rw [List.drop_drop]; exact s
theorem RepL.nth (d : α) (hn : ∀ x c h, f x c h → c.length = n) : ∀ {xs : List α} {cs : List Value} {h : Frag} (i : Nat) (hi : i < xs.length), RepL f xs cs h →
    ∃ pre c post hp h1 hq, cs = pre ++ c ++ post ∧ h = hp ++ h1 ++ hq ∧ pre.length = i * n ∧ f (xs.getD i d) c h1 ∧
      (∀ g : α → List Value → Frag → Prop, (∀ x c h, f x c h → g x c h) → ∀ y c' h', g y c' h' → RepL g (xs.set i y) (pre ++ c' ++ post) (hp ++ h' ++ hq)) ∧
      (∀ j, j ≠ i → j < xs.length → ∃ cj gj, f (xs.getD j d) cj gj ∧ (∀ p ∈ gj, p ∈ hp ∨ p ∈ hq) ∧ ∀ c' : List Value, c'.length = n → ((pre ++ c' ++ post).drop (j * n)).take n = cj)
  | [], _, _, i, hi, _ => by simp at hi
  | x :: xs, _, _, 0, hi, ⟨c1, c2, h1, h2, e1, e2, r1, r2⟩ => by
    refine ⟨[], c1, c2, [], h1, h2, by simpa using e1, by simpa using e2, by simp, r1, fun g hg y c' h' r => ⟨c', c2, h', h2, by simp, by simp, r, r2.mono hg⟩, ?_⟩
    intro j hj hjl
    obtain ⟨j, rfl⟩ : ∃ k, j = k + 1 := ⟨j - 1, by omega⟩
    obtain ⟨pre, c, post, hp, g1, hq, d1, d2, d3, d4, _⟩ := r2.nth d hn j (by simpa using hjl)
    subst d1; subst d2
    refine ⟨c, g1, by simpa using d4, fun p hp => .inr (by simp [hp]), fun c' hc' => ?_⟩
    have hl := hn _ _ _ d4
    rw [Nat.add_mul, Nat.one_mul, Nat.add_comm, ← List.drop_drop]
    have : ([] ++ c' ++ (pre ++ c ++ post)).drop n = pre ++ (c ++ post) := by rw [← hc']; simp
    rw [this, ← d3]; simp [← hl]
  | x :: xs, _, _, i + 1, hi, ⟨c1, c2, h1, h2, e1, e2, r1, r2⟩ => by
    subst e1; subst e2
    obtain ⟨pre, c, post, hp, g1, hq, d1, d2, d3, d4, d5, d6⟩ := r2.nth d hn i (by simpa using hi)
    subst d1; subst d2
    have hl1 := hn _ _ _ r1
    refine ⟨c1 ++ pre, c, post, h1 ++ hp, g1, hq, by simp, by simp, by simp [d3, hl1, Nat.add_mul]; omega, by simpa using d4, fun g hg y c' h' r => ⟨c1, pre ++ c' ++ post, h1, hp ++ h' ++ hq, by simp, by simp, hg _ _ _ r1, d5 g hg y c' h' r⟩, ?_⟩
    intro j hj hjl
    cases j with
    | zero => exact ⟨c1, h1, by simpa using r1, fun p hp => .inl (by simp [hp]), fun c' _ => by simp [← hl1]⟩
    | succ j =>
      obtain ⟨cj, gj, f1, f2, f3⟩ := d6 j (by omega) (by simpa using hjl)
      refine ⟨cj, gj, by simpa using f1, fun p hp => (f2 p hp).imp (fun h => by simp [h]) id, fun c' hc' => ?_⟩
      rw [Nat.add_mul, Nat.one_mul, Nat.add_comm, ← List.drop_drop]
      have : (c1 ++ pre ++ c' ++ post).drop n = pre ++ c' ++ post := by rw [← hl1]; simp
      rw [this]; exact f3 c' hc'
theorem RepL.none (hf : ∀ x c h, f x c h → h = []) : ∀ {xs : List α} {cs : List Value} {h : Frag}, RepL f xs cs h → h = []
  | [], _, _, r => r
  | _ :: _, _, _, ⟨c1, c2, h1, h2, e1, e2, r1, r2⟩ => by rw [e2, hf _ _ _ r1, r2.none hf]; rfl
theorem RepL.all {p : Value → Prop} (hf : ∀ x c h, f x c h → ∀ v ∈ c, p v) (hn : ∀ x c h, f x c h → c.length = n) : ∀ {xs : List α} {cs : List Value} {h : Frag}, RepL f xs cs h → ∀ v ∈ cs.take (xs.length * n), p v
  | [], _, _, _ => by simp
  | x :: xs, _, _, ⟨c1, c2, h1, h2, e1, e2, r1, r2⟩ => by
    subst e1
    have hk : (x :: xs).length * n = c1.length + xs.length * n := by simp [Nat.add_mul, hn _ _ _ r1]; omega
    rw [hk, List.take_append]
    intro v hv
    rcases List.mem_append.1 hv with hv | hv
    · exact hf _ _ _ r1 v (List.mem_of_mem_take hv)
    · exact r2.all hf hn v (by simpa using hv)
end lists
section rep
variable {w w' : World} {Im Im' : Nat → Prop}
theorem Rep.len : ∀ {t : Ty} {m : Md} {x : den t} {cs : List Value} {h : Frag}, Rep w Im t m x cs h → cs.length = sz t
  | .int _, _, _, _, _, r => by rw [r.1]; rfl
  | .bool, _, _, _, _, r => by rw [r.1]; rfl
  | .str, _, _, _, _, r => by rw [r.1]; rfl
  | .raw, _, _, _, _, r => by rw [r.1]; rfl
  | .unit, _, _, _, _, r => by rw [r.1]; rfl
  | .pair a b, _, _, _, _, ⟨c1, c2, h1, h2, e1, e2, r1, r2⟩ => by rw [e1, List.length_append, r1.len, r2.len]; rfl
  | .slc t, .ro, _, _, _, ⟨_, A, cap, e, _⟩ => by rw [e]; rfl
  | .slc t, .rz, _, _, _, ⟨⟨_, A, cap, e, _⟩, _⟩ => by rw [e]; rfl
  | .slc t, .own m, _, _, _, r => by
    rcases r with ⟨_, ⟨A, e⟩, _⟩ | ⟨b, o, c, e, cap, h', e1, _⟩
    · rw [e]; rfl
    · rw [e1]; rfl
  | .slc t, .dead, _, _, _, ⟨⟨v, e, _⟩, _⟩ => by rw [e]; rfl
  | .slc t, .pair _ _, _, _, _, r => by exact absurd r (by simp [Rep])
  | .mp _ _, .ro, _, _, _, ⟨_, r⟩ => by
    rcases r with ⟨_, e⟩ | ⟨b, es, clk, e, _⟩ <;> rw [e] <;> rfl
  | .mp _ _, .own _, _, _, _, r => by
    rcases r with ⟨_, _, e, _⟩ | ⟨b, es, clk, e, _⟩ <;> rw [e] <;> rfl
  | .mp _ _, .dead, _, _, _, ⟨⟨v, e, _⟩, _⟩ => by rw [e]; rfl
  | .mp _ _, .pair _ _, _, _, _, r => by exact absurd r (by simp [Rep])
  | .mp _ _, .rz, _, _, _, r => by exact absurd r (by simp [Rep])
theorem Rep.one : ∀ {t : Ty} {m : Md} {x : den t} {cs : List Value} {h : Frag}, Rep w Im t m x cs h → ∀ v ∈ cs, v.oneCell' = true
  | .int _, _, _, _, _, r => by rw [r.1]; simp [Value.oneCell']
  | .bool, _, _, _, _, r => by rw [r.1]; simp [Value.oneCell']
  | .str, _, _, _, _, r => by rw [r.1]; simp [Value.oneCell']
  | .raw, _, _, _, _, r => by rw [r.1]; simpa using r.2.1
  | .unit, _, _, _, _, r => by rw [r.1]; simp
  | .pair a b, _, _, _, _, ⟨c1, c2, h1, h2, e1, e2, r1, r2⟩ => by
    rw [e1]; intro v hv
    rcases List.mem_append.1 hv with hv | hv
    · exact r1.one v hv
    · exact r2.one v hv
  | .slc t, .ro, _, _, _, ⟨_, A, cap, e, _⟩ => by rw [e]; simp [Value.oneCell']
  | .slc t, .rz, _, _, _, ⟨⟨_, A, cap, e, _⟩, _⟩ => by rw [e]; simp [Value.oneCell']
  | .slc t, .own m, _, _, _, r => by
    rcases r with ⟨_, ⟨A, e⟩, _⟩ | ⟨b, o, c, e, cap, h', e1, _⟩
    · rw [e]; simp [Value.oneCell']
    · rw [e1]; simp [Value.oneCell']
  | .slc t, .dead, _, _, _, ⟨⟨v, e, h1⟩, _⟩ => by rw [e]; simpa using h1
  | .slc t, .pair _ _, _, _, _, r => by exact absurd r (by simp [Rep])
  | .mp _ _, .ro, _, _, _, ⟨_, r⟩ => by
    rcases r with ⟨_, e⟩ | ⟨b, es, clk, e, _⟩ <;> rw [e] <;> simp [Value.oneCell']
  | .mp _ _, .own _, _, _, _, r => by
    rcases r with ⟨_, _, e, _⟩ | ⟨b, es, clk, e, _⟩ <;> rw [e] <;> simp [Value.oneCell']
  | .mp _ _, .dead, _, _, _, ⟨⟨v, e, h1⟩, _⟩ => by rw [e]; simpa using h1
  | .mp _ _, .pair _ _, _, _, _, r => by exact absurd r (by simp [Rep])
  | .mp _ _, .rz, _, _, _, r => by exact absurd r (by simp [Rep])
theorem Rep.ro : ∀ {t : Ty} {x : den t} {cs : List Value} {h : Frag}, Rep w Im t .ro x cs h → h = []
  | .int _, _, _, _, r => r.2
  | .bool, _, _, _, r => r.2
  | .str, _, _, _, r => r.2
  | .raw, _, _, _, r => r.2.2
  | .unit, _, _, _, r => r.2
  | .pair a b, _, _, _, ⟨c1, c2, h1, h2, e1, e2, r1, r2⟩ => by
    have a1 := r1.ro; have a2 := r2.ro; rw [e2, a1, a2]; rfl
  | .slc t, _, _, _, r => r.1
  | .mp _ _, _, _, _, r => r.1
theorem Rep.frame (hi : ∀ b, Im b → Im' b) (hw : ∀ b, Im b → w'.heap[b]? = w.heap[b]?) : ∀ {t : Ty} {m : Md} {x : den t} {cs : List Value} {h : Frag}, Rep w Im t m x cs h → Rep w' Im' t m x cs h
  | .int _, _, _, _, _, r => r
  | .bool, _, _, _, _, r => r
  | .str, _, _, _, _, r => r
  | .raw, _, _, _, _, r => r
  | .unit, _, _, _, _, r => r
  | .pair a b, _, _, _, _, ⟨c1, c2, h1, h2, e1, e2, r1, r2⟩ => ⟨c1, c2, h1, h2, e1, e2, r1.frame hi hw, r2.frame hi hw⟩
  | .slc t, .ro, _, _, _, ⟨e0, A, cap, e, hc, r⟩ => ⟨e0, A, cap, e, hc, fun hne => by
      obtain ⟨b, o, c, el, fz, ea, im, hh, r1⟩ := r hne
      exact ⟨b, o, c, el, fz, ea, hi b im, (hw b im).trans hh, r1.mono fun _ _ _ r => r.frame hi hw⟩⟩
  | .slc t, .rz, _, _, _, ⟨⟨e0, A, cap, e, hc, r⟩, z⟩ => ⟨⟨e0, A, cap, e, hc, fun hne => by
      obtain ⟨b, o, c, el, fz, ea, im, hh, r1⟩ := r hne
      exact ⟨b, o, c, el, fz, ea, hi b im, (hw b im).trans hh, r1.mono fun _ _ _ r => r.frame hi hw⟩⟩, z⟩
  | .slc t, .own m, _, _, _, r => by
    rcases r with r | ⟨b, o, c, e, cap, h', e1, e2, e3, e4, e5, r1⟩
    · exact .inl r
    · exact .inr ⟨b, o, c, e, cap, h', e1, e2, e3, e4, e5, r1.mono fun _ _ _ r => r.frame hi hw⟩
  | .slc t, .dead, _, _, _, r => r
  | .slc t, .pair _ _, _, _, _, r => by exact absurd r (by simp [Rep])
  | .mp _ _, .ro, _, _, _, ⟨e0, r⟩ => ⟨e0, r.imp id fun ⟨b, es, clk, e, im, hh, r⟩ => ⟨b, es, clk, e, hi b im, (hw b im).trans hh, r.mono fun _ _ r => r.frame hi hw⟩⟩
  | .mp _ _, .own _, _, _, _, r => r.imp id fun ⟨b, es, clk, e, h, r⟩ => ⟨b, es, clk, e, h, r.mono fun _ _ r => r.frame hi hw⟩
  | .mp _ _, .dead, _, _, _, r => r
  | .mp _ _, .pair _ _, _, _, _, r => by exact absurd r (by simp [Rep])
  | .mp _ _, .rz, _, _, _, r => by exact absurd r (by simp [Rep])
def sameM : Ty → Md → Md → Bool
  | .pair a b, m, n => sameM a m.fst n.fst && sameM b m.snd n.snd
  | .slc _, .ro, .ro => true
  | .slc _, .dead, .dead => true
  | .slc _, .rz, .rz => true
  | .slc t, .own m, .own n => sameM t m n
  | .slc _, _, _ => false
  | .mp _ _, .ro, .ro => true
  | .mp _ _, .dead, .dead => true
  | .mp _ _, .own m, .own n => decide (m = n)
  | .mp _ _, _, _ => false
  | _, _, _ => true
theorem Rep.same : ∀ {t : Ty} {m n : Md} {x : den t} {cs : List Value} {h : Frag}, sameM t m n = true → Rep w Im t m x cs h → Rep w Im t n x cs h
  | .int _, _, _, _, _, _, _, r => r
  | .bool, _, _, _, _, _, _, r => r
  | .str, _, _, _, _, _, _, r => r
  | .raw, _, _, _, _, _, _, r => r
  | .unit, _, _, _, _, _, _, r => r
  | .pair a b, _, _, _, _, _, hs, ⟨c1, c2, h1, h2, e1, e2, r1, r2⟩ => by
    simp only [sameM, Bool.and_eq_true] at hs
    exact ⟨c1, c2, h1, h2, e1, e2, r1.same hs.1, r2.same hs.2⟩
  | .slc t, .ro, n, _, _, _, hs, r => by
    cases n <;> simp only [sameM, reduceCtorEq] at hs
    exact r
  | .slc t, .dead, n, _, _, _, hs, r => by
    cases n <;> simp only [sameM, reduceCtorEq] at hs
    exact r
  | .slc t, .rz, n, _, _, _, hs, r => by
    cases n <;> simp only [sameM, reduceCtorEq] at hs
    exact r
  | .slc t, .pair _ _, n, _, _, _, hs, r => by simp [sameM] at hs
  | .slc t, .own m, n, _, _, _, hs, r => by
    cases n <;> simp only [sameM, reduceCtorEq] at hs
    rcases r with r | ⟨b, o, c, e, cap, h', e1, e2, e3, e4, e5, e6⟩
    · exact .inl r
    · exact .inr ⟨b, o, c, e, cap, h', e1, e2, e3, e4, e5, e6.mono fun _ _ _ r => r.same hs⟩
  | .mp _ _, .ro, n, _, _, _, hs, r => by
    cases n <;> simp only [sameM, reduceCtorEq] at hs
    exact r
  | .mp _ _, .dead, n, _, _, _, hs, r => by
    cases n <;> simp only [sameM, reduceCtorEq] at hs
    exact r
  | .mp _ _, .pair _ _, n, _, _, _, hs, r => by simp [sameM] at hs
  | .mp _ _, .rz, n, _, _, _, hs, r => by simp [sameM] at hs
  | .mp _ _, .own m, n, _, _, _, hs, r => by
    cases n <;> simp only [sameM, reduceCtorEq, decide_eq_true_eq] at hs
    subst hs; exact r
def noRo : Ty → Md → Bool
  | .pair a b, m => noRo a m.fst && noRo b m.snd
  | .slc t, .own m => noRo t m
  | .slc _, .dead => true
  | .slc _, _ => false
  | .mp _ v, .own _ => noRo v .ro
  | .mp _ _, .dead => true
  | .mp _ _, _ => false
  | _, _ => true
theorem Rep.noRo : ∀ {t : Ty} {m : Md} {x : den t} {cs : List Value} {h : Frag}, V.noRo t m = true → Rep w Im t m x cs h → Rep w' Im' t m x cs h
  | .int _, _, _, _, _, _, r => r
  | .bool, _, _, _, _, _, r => r
  | .str, _, _, _, _, _, r => r
  | .raw, _, _, _, _, _, r => r
  | .unit, _, _, _, _, _, r => r
  | .pair a b, _, _, _, _, hs, ⟨c1, c2, h1, h2, e1, e2, r1, r2⟩ => by
    simp only [V.noRo, Bool.and_eq_true] at hs
    exact ⟨c1, c2, h1, h2, e1, e2, r1.noRo hs.1, r2.noRo hs.2⟩
  | .slc t, .ro, _, _, _, hs, r => by simp [V.noRo] at hs
  | .slc t, .dead, _, _, _, hs, r => r
  | .slc t, .pair _ _, _, _, _, hs, r => by simp [V.noRo] at hs
  | .slc t, .rz, _, _, _, hs, r => by simp [V.noRo] at hs
  | .slc t, .own m, _, _, _, hs, r => by
    rcases r with r | ⟨b, o, c, e, cap, h', e1, e2, e3, e4, e5, e6⟩
    · exact .inl r
    · exact .inr ⟨b, o, c, e, cap, h', e1, e2, e3, e4, e5, e6.mono fun _ _ _ r => r.noRo hs⟩
  | .mp _ _, .ro, _, _, _, hs, r => by simp [V.noRo] at hs
  | .mp _ _, .dead, _, _, _, hs, r => r
  | .mp _ _, .pair _ _, _, _, _, hs, r => by simp [V.noRo] at hs
  | .mp _ _, .rz, _, _, _, hs, r => by simp [V.noRo] at hs
  | .mp _ _, .own m, _, _, _, hs, r => r.imp id fun ⟨b, es, clk, e, h, r⟩ => ⟨b, es, clk, e, h, r.mono fun _ _ r => r.noRo hs⟩
def live : Ty → Md → Bool
  | .pair a b, m => live a m.fst && live b m.snd
  | .slc _, .ro => true
  | .slc _, .rz => true
  | .slc t, .own m => live t m
  | .slc _, _ => false
  | .mp _ _, .ro => true
  | .mp _ _, .own _ => true
  | .mp _ _, _ => false
  | _, _ => true
theorem freezeL {α : Type} {f g : α → List Value → Frag → Prop} : ∀ {xs : List α} {cs : List Value} {h : Frag},
    (∀ x c k, f x c k → (∀ p ∈ k, p ∈ h) → g x c []) → RepL f xs cs h → RepL g xs cs []
  | [], _, _, _, _ => rfl
  | _ :: _, _, _, hf, ⟨c1, c2, h1, h2, e1, e2, r1, r2⟩ => by
    subst e2
    exact ⟨c1, c2, [], [], e1, rfl, hf _ _ _ r1 (fun p hp => List.mem_append_left _ hp), freezeL (fun x c k r hk => hf x c k r (fun p hp => List.mem_append_right _ (hk p hp))) r2⟩
theorem Rep.freeze : ∀ {t : Ty} {m : Md} {x : den t} {cs : List Value} {h : Frag}, live t m = true → (∀ b, Im b → Im' b) → (∀ b, Im b → w'.heap[b]? = w.heap[b]?) →
    (∀ p ∈ h, Im' p.1 ∧ w'.heap[p.1]? = some p.2) → Rep w Im t m x cs h → Rep w' Im' t .ro x cs []
  | .int _, _, _, _, _, _, _, _, _, r => ⟨r.1, rfl⟩
  | .bool, _, _, _, _, _, _, _, _, r => ⟨r.1, rfl⟩
  | .str, _, _, _, _, _, _, _, _, r => ⟨r.1, rfl⟩
  | .raw, _, _, _, _, _, _, _, _, r => ⟨r.1, r.2.1, rfl⟩
  | .unit, _, _, _, _, _, _, _, _, r => ⟨r.1, rfl⟩
  | .pair a b, m, _, _, _, hl, hi, hw, hh, ⟨c1, c2, h1, h2, e1, e2, r1, r2⟩ => by
    subst e2
    simp only [live, Bool.and_eq_true] at hl
    exact ⟨c1, c2, [], [], e1, rfl, r1.freeze hl.1 hi hw (fun p hp => hh p (List.mem_append_left _ hp)), r2.freeze hl.2 hi hw (fun p hp => hh p (List.mem_append_right _ hp))⟩
  | .slc t, .ro, _, _, _, hl, hi, hw, hh, r => by
    have e := r.1; subst e
    exact Rep.frame hi hw r
  | .slc t, .own m, _, _, _, hl, hi, hw, hh, r => by
    rcases r with ⟨e0, ⟨A, e1⟩, e2⟩ | ⟨b, o, c, e, cap, h', e1, e2, e3, e4, e5, r1⟩
    · subst e0; subst e1; subst e2
      exact ⟨rfl, A, 0, rfl, Nat.le_refl _, fun hne => absurd rfl hne⟩
    · subst e1; subst e2
      refine ⟨rfl, _, cap, rfl, e3, fun hne => ⟨b, o, c, e, (0, 0), rfl, (hh _ (List.mem_cons_self ..)).1, (hh _ (List.mem_cons_self ..)).2, ?_⟩⟩
      exact freezeL (fun x cc k rr hk => rr.freeze hl hi hw (fun p hp => hh p (List.mem_cons_of_mem _ (hk p hp)))) r1
  | .slc t, .dead, _, _, _, hl, _, _, _, _ => by simp [live] at hl
  | .slc t, .pair _ _, _, _, _, hl, _, _, _, _ => by simp [live] at hl
  | .slc t, .rz, _, _, _, hl, hi, hw, hh, r => by
    have e := r.1.1; subst e
    exact Rep.frame (t := .slc t) (m := .ro) hi hw r.1
  | .mp _ _, .ro, _, _, _, hl, hi, hw, hh, r => by
    have e := r.1; subst e
    exact Rep.frame hi hw r
  | .mp _ _, .own m, _, _, _, hl, hi, hw, hh, r => by
    rcases r with ⟨_, e1, e2, e3⟩ | ⟨b, es, clk, e1, e2, r⟩
    · exact ⟨rfl, .inl ⟨e1, e2⟩⟩
    · subst e2
      exact ⟨rfl, .inr ⟨b, es, clk, e1, (hh _ (List.mem_cons_self ..)).1, (hh _ (List.mem_cons_self ..)).2, r.mono fun _ _ r => Rep.frame hi hw r⟩⟩
  | .mp _ _, .dead, _, _, _, hl, _, _, _, _ => by simp [live] at hl
  | .mp _ _, .pair _ _, _, _, _, hl, _, _, _, _ => by simp [live] at hl
  | .mp _ _, .rz, _, _, _, hl, _, _, _, _ => by simp [live] at hl
end rep
end Go.Proofs.YtgdaiifhedpffaaDoor.V
