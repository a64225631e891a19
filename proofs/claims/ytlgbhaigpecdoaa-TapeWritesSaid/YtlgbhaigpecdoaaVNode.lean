/- Loops and joins as functions. -/
import Derived.Test.YtlgbhaigpecdoaaVEnvOk
set_option linter.unusedVariables false
set_option linter.unusedSimpArgs false
namespace Go.Proofs.Ytlgbhaigpecdoaa.V
open Go

section
variable {A B : Type}
theorem cond_bind (b : Bool) (x y : Option A) (k : A → Option B) : (cond b x y).bind k = cond b (x.bind k) (y.bind k) := by cases b <;> rfl
theorem ite_bind (p : Prop) [Decidable p] (x y : Option A) (k : A → Option B) : (if p then x else y).bind k = if p then x.bind k else y.bind k := by split <;> rfl
theorem bind_bind {C : Type} (x : Option A) (f : A → Option B) (k : B → Option C) : (x.bind f).bind k = x.bind fun a => (f a).bind k := by cases x <;> rfl
theorem some_bind (a : A) (k : A → Option B) : (some a).bind k = k a := rfl
theorem none_bind (k : A → Option B) : (none : Option A).bind k = none := rfl
end
theorem elim_bind {A B A2 B2 : Type} (f : A → Option B) (g : A2 → Option B) (s : A ⊕ A2) (k : B → Option B2) : (Sum.elim f g s).bind k = Sum.elim (fun a => (f a).bind k) (fun a => (g a).bind k) s := by cases s <;> rfl
theorem loop_ok {c : Fx} {b : Code} {nd : Node} {C X : Type} (con : nd.sk.T → C) (get : nd.sk.T → X) (put : C → X → nd.sk.T) (hpg : ∀ t, put (con t) (get t) = t) (g : C → X → Option (X ⊕ nd.Y)) (out : C → nd.Y → OutV nd.outs)
    (ho : ∀ t y, nd.out t y = out (con t) y) (hd : ∀ {R : Type} t y (K : Ex → St → Option R), nd.disp t y K = dispatch nd.outs K (nd.out t y))
    (hr : ∀ k x, roundS c b nd (put k x) = (g k x).bind (Sum.elim (fun x => some (.inl (put k x))) (fun y => some (.inr (out k y))))) (hL : ∀ t, nd.L t = loopO (g (con t)) (get t)) : LoopOk c b nd := by
  refine ⟨hd, fun x y h => ?_⟩
  rw [hL] at h
  obtain ⟨n, hn⟩ := loopO_some h
  refine ⟨n, ?_⟩
  rw [ho, ← hpg x]
  have e : con (put (con x) (get x)) = con x := by rw [hpg]
  rw [e]
  clear e
  generalize get x = u at hn
  generalize con x = k at hn
  clear h x
  induction n generalizing u with
  | zero => cases hn
  | succ n ih =>
    simp only [rounds] at hn ⊢
    rw [hr]
    cases hg : g k u with
    | none => rw [hg] at hn; cases hn
    | some s =>
      rw [hg] at hn
      cases s with
      | inl v => exact ih v hn
      | inr v => cases hn; rfl
theorem tail_ok {c : Fx} {b : Code} {nd : Node} {C X : Type} (con : nd.sk.T → C) (get : nd.sk.T → X) (put : C → X → nd.sk.T) (hpg : ∀ t, put (con t) (get t) = t) (F : X → Option nd.Y) (out : C → X → nd.Y → OutV nd.outs)
    (ho : ∀ t y, nd.out t y = out (con t) (get t) y) (hd : ∀ {R : Type} t y (K : Ex → St → Option R), nd.disp t y K = dispatch nd.outs K (nd.out t y))
    (hr : ∀ k x, tailS c b nd (put k x) = (F x).bind fun y => some (out k x y)) (hL : ∀ t, nd.L t = F (get t)) : TailOk c b nd := by
  refine ⟨hd, fun x y h => ?_⟩
  rw [hL] at h
  have := hr (con x) (get x)
  rw [hpg, h] at this
  rw [this, ho]; rfl
def LoopsOk (c : Fx) : List Code → Prop
  | [] => True
  | b :: l => (∀ nd, nget c.nodes true (head b) = some nd → LoopOk c b nd) ∧ LoopsOk c l
def TailsOk (c : Fx) : List Code → Prop
  | [] => True
  | b :: l => (∀ nd, nget c.nodes false (head b) = some nd → TailOk c b nd) ∧ TailsOk c l
theorem LoopsOk.of {c : Fx} {m l : List Code} (e : m = l) (h : LoopsOk c l) : ∀ b ∈ m, ∀ nd, nget c.nodes true (head b) = some nd → LoopOk c b nd := by
  subst e
  intro b hb
  induction m with
  | nil => cases hb
  | cons x m ih =>
    rcases List.mem_cons.1 hb with e | hb
    · rw [e]; exact h.1
    · exact ih h.2 hb
theorem TailsOk.of {c : Fx} {m l : List Code} (e : m = l) (h : TailsOk c l) : ∀ b ∈ m, ∀ nd, nget c.nodes false (head b) = some nd → TailOk c b nd := by
  subst e
  intro b hb
  induction m with
  | nil => cases hb
  | cons x m ih =>
    rcases List.mem_cons.1 hb with e | hb
    · rw [e]; exact h.1
    · exact ih h.2 hb
theorem node_is {c : Fx} {b : Code} {k : Bool} {N : Node} {Q : Node → Prop} (e : nget c.nodes k (head b) = some N) (h : Q N) : ∀ nd, nget c.nodes k (head b) = some nd → Q nd := by
  intro nd h2; rw [e] at h2; cases h2; exact h
theorem node_no {c : Fx} {b : Code} {k : Bool} {Q : Node → Prop} (e : nget c.nodes k (head b) = none) : ∀ nd, nget c.nodes k (head b) = some nd → Q nd := by
  intro nd h2; rw [e] at h2; cases h2
theorem no_tails {c : Fx} {l : List Code} (h : c.nodes.all (fun p => p.1.1) = true) : ∀ b ∈ l, ∀ nd, nget c.nodes false (head b) = some nd → TailOk c b nd := by
  intro b hb nd hn
  have go : ∀ {l : List ((Bool × Nat) × Node)} {o : Option Nat}, l.all (fun p => p.1.1) = true → nget l false o = none := by
    intro l o
    cases o with
    | none => intro _; cases l <;> rfl
    | some i =>
      induction l with
      | nil => intro _; rfl
      | cons p l ih =>
        intro h
        simp only [List.all_cons, Bool.and_eq_true] at h
        simp [nget, h.1, ih h.2]
  rw [go h] at hn; cases hn
def TabsOk (P : Program) : Tab → Prop
  | [] => True
  | p :: l => (SmOk P p.1 p.2 ∧ FnOk P p.1) ∧ TabsOk P l
theorem TabsOk.all {P : Program} {l : Tab} (h : TabsOk P l) : ∀ p ∈ l, SmOk P p.1 p.2 ∧ FnOk P p.1 := by
  intro p hp
  induction l with
  | nil => cases hp
  | cons x l ih =>
    rcases List.mem_cons.1 hp with e | hp
    · rw [e]; exact h.1
    · exact ih h.2 hp
/-- A loop ends: with a measure that falls, or by hand. -/
theorem loopO_eq {A B : Type} {f : A → Option (A ⊕ B)} {a : A} {b : B} {n : Nat} (h : rounds f n a = some b) : loopO f a = some b := by
  have mono : ∀ (n m : Nat) (a : A) (b b' : B), rounds f n a = some b → rounds f m a = some b' → b = b' := by
    intro n
    induction n with
    | zero => intro m a b b' h; cases h
    | succ n ih =>
      intro m a b b' h h'
      cases m with
      | zero => cases h'
      | succ m =>
        simp only [rounds] at h h'
        cases hf : f a with
        | none => rw [hf] at h; cases h
        | some s =>
          rw [hf] at h h'
          cases s with
          | inl x => exact ih m x b b' h h'
          | inr x => cases h; cases h'; rfl
  unfold loopO
  have hh : ∃ n b, rounds f n a = some b := ⟨n, b, h⟩
  rw [dif_pos hh]
  have h2 := Classical.choose_spec (Classical.choose_spec hh)
  rw [mono _ _ _ _ _ h2 h]
theorem loopO_next {A B : Type} {f : A → Option (A ⊕ B)} {a a' : A} (h : f a = some (.inl a')) : loopO f a = loopO f a' := by
  cases hb : loopO f a' with
  | some b =>
    obtain ⟨n, hn⟩ := loopO_some hb
    exact loopO_eq (n := n + 1) (by simp only [rounds, h]; exact hn)
  | none =>
    cases ha : loopO f a with
    | none => rfl
    | some b =>
      obtain ⟨n, hn⟩ := loopO_some ha
      cases n with
      | zero => cases hn
      | succ n =>
        simp only [rounds, h] at hn
        rw [loopO_eq hn] at hb; cases hb
theorem loopO_out {A B : Type} {f : A → Option (A ⊕ B)} {a : A} {b : B} (h : f a = some (.inr b)) : loopO f a = some b := loopO_eq (n := 1) (by simp only [rounds, h])
/-- A function's summary, from its run in the handed-on form. -/
theorem sum_of {P : Program} {c : Fx} (hm : P.follows .mixedOrders = true) (hE : EnvOk P c.E) (hT : ∀ p ∈ c.T, SmOk P p.1 p.2 ∧ FnOk P p.1) {f : FuncId} {fn : Func} {code : Code} (hf : P.funcs[f]? = some fn) (hb : fn.body = some code)
    (hL : ∀ b ∈ loops code, ∀ nd, nget c.nodes true (head b) = some nd → LoopOk c b nd) (hTl : ∀ b ∈ tails code, ∀ nd, nget c.nodes false (head b) = some nd → TailOk c b nd) {sm : Sm}
    (hF : ∀ (ks : List Nat) (x : ArgT sm.ps), ks.length = ioN sm.ps → codeS c code (start sm.ps ks x fn.ntmps) (finK c.E fn.results.toList sm.ps sm.rs) = (sm.F x).bind fun r => some (r, ks.map some)) : SmOk P f sm :=
  sum_ok hm hE (fun G I0 => call_ok hT) hf hb hL hTl fun ks x r hl hr => by rw [hF ks x hl, hr]; rfl
end Go.Proofs.Ytlgbhaigpecdoaa.V
