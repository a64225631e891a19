/- A state's shape, and the values in it. -/
import Derived.Test.YtlgbhaigpecdoaaVStep
set_option linter.unusedVariables false
set_option linter.unusedSimpArgs false
namespace Go.Proofs.Ytlgbhaigpecdoaa.V
open Go

instance : DecidableEq Step := fun a b => match a, b with
  | .fst, .fst => isTrue rfl
  | .snd, .snd => isTrue rfl
  | .idx i, .idx j => if h : i = j then isTrue (by rw [h]) else isFalse (by intro e; cases e; exact h rfl)
  | .fst, .snd => isFalse (by intro e; cases e)
  | .fst, .idx _ => isFalse (by intro e; cases e)
  | .snd, .fst => isFalse (by intro e; cases e)
  | .snd, .idx _ => isFalse (by intro e; cases e)
  | .idx _, .fst => isFalse (by intro e; cases e)
  | .idx _, .snd => isFalse (by intro e; cases e)
/-- What stands in a slot, without its values. -/
inductive Sk where
  | undef
  | con (t : Ty)
  | nil
  | emp
  | agg (a b : Sk)
  | tcons (a b : Sk)
  | tnil
  | ref (r : Nat) (q : Path)
  | sub (r : Nat) (q : Path)
  | ptr (r : Nat) (q : Path)
  | pro (t : Ty)
  | fn (f : FuncId) (c : Sk)
@[reducible] def Sk.T : Sk → Type
  | .con t => den t
  | .agg a b => a.T × b.T
  | .tcons a b => a.T × b.T
  | .sub _ _ => Nat × Nat
  | .pro t => den t
  | .fn _ c => c.T
  | _ => Unit
def Sk.fill : (s : Sk) → s.T → SV
  | .undef, _ => .undef
  | .con t, x => .con t x
  | .nil, _ => .raw (.slice none 0 0)
  | .emp, _ => .emp
  | .agg a b, x => .agg (a.fill x.1) (b.fill x.2)
  | .tcons a b, x => .tcons (a.fill x.1) (b.fill x.2)
  | .tnil, _ => .tnil
  | .ref r q, _ => .ref r q
  | .sub r q, x => .sub r q x.1 x.2
  | .ptr r q, _ => .ptr r q
  | .pro t, x => .pro t x
  | .fn f c, x => .fn f (c.fill x)
def isNilV : Value → Bool
  | .slice none 0 0 => true
  | _ => false
theorem isNilV_ok {v : Value} (h : isNilV v = true) : v = .slice none 0 0 := by
  unfold isNilV at h
  split at h
  · rfl
  · cases h
/-- It is one cell. -/
def one : SV → Bool
  | .undef => true
  | .con t _ => !aggTy t
  | .raw v => isNilV v
  | .emp => true
  | .ref _ _ => true
  | .sub _ _ _ _ => true
  | .ptr _ _ => true
  | .pro _ _ => true
  | .fn _ _ => true
  | _ => false
section cps
variable {R : Type}
/-- 0: a slot; 1: cells of a struct; 2: results behind results. -/
def Sk.take : (s : Sk) → Nat → SV → (s.T → Option R) → Option R
  | .undef, 0, _, K => K ()
  | .undef, 1, v, K => if one v = true then K () else none
  | .con t, _, .con t' x, K => if h : t' = t then K (h ▸ x) else none
  | .nil, _, .raw v, K => if isNilV v = true then K () else none
  | .emp, _, .emp, K => K ()
  | .agg a b, _, .agg x y, K => a.take 1 x fun u => b.take 1 y fun v => K (u, v)
  | .tcons a b, _, .tcons x y, K => a.take 0 x fun u => b.take 2 y fun v => K (u, v)
  | .tnil, _, .tnil, K => K ()
  | .ref r q, _, .ref r' q', K => if r' = r ∧ q' = q then K () else none
  | .sub r q, _, .sub r' q' lo n, K => if r' = r ∧ q' = q then K (lo, n) else none
  | .ptr r q, _, .ptr r' q', K => if r' = r ∧ q' = q then K () else none
  | .pro t, _, .pro t' x, K => if h : t' = t then K (h ▸ x) else none
  | .fn f c, _, .fn g x, K => if g = f then c.take 2 x K else none
  | _, _, _, _ => none
end cps
/-- It is as the shape tells, or nothing is told. -/
def less : Nat → SV → SV → Prop
  | 0, .undef, _ => True
  | 1, .undef, v => one v = true
  | _, .agg a b, .agg x y => less 1 a x ∧ less 1 b y
  | _, .tcons a b, .tcons x y => less 0 a x ∧ less 2 b y
  | _, .fn f c, .fn g x => f = g ∧ less 2 c x
  | _, a, x => a = x ∧ a ≠ .undef
def leaf : SV → Bool
  | .con _ _ => true
  | .raw _ => true
  | .emp => true
  | .tnil => true
  | .ref _ _ => true
  | .sub _ _ _ _ => true
  | .ptr _ _ => true
  | .pro _ _ => true
  | _ => false
theorem less_leaf (k : Nat) (a : SV) (h : leaf a = true) : less k a a := by
  match k with
  | 0 => cases a <;> simp [leaf] at h <;> simp [less]
  | 1 => cases a <;> simp [leaf] at h <;> simp [less]
  | k + 2 => cases a <;> simp [leaf] at h <;> simp [less]
theorem Sk.take_some {T : Type} {r : T} : ∀ {s : Sk} {k : Nat} {v : SV} {K : s.T → Option T}, s.take k v K = some r → ∃ x, K x = some r ∧ less k (s.fill x) v := by
  intro s
  induction s with
  | undef =>
    intro k v K h
    match k with
    | 0 => exact ⟨(), by simpa [Sk.take] using h, trivial⟩
    | 1 =>
      simp only [Sk.take] at h
      split at h
      · rename_i e; exact ⟨(), h, e⟩
      · cases h
    | k + 2 => simp [Sk.take] at h
  | con t =>
    intro k v K h
    cases v <;> simp only [Sk.take, reduceCtorEq] at h
    split at h
    · rename_i e; subst e; exact ⟨_, h, less_leaf k _ rfl⟩
    · cases h
  | nil =>
    intro k v K h
    cases v <;> simp only [Sk.take, reduceCtorEq] at h
    split at h
    · rename_i e; exact ⟨_, h, by rw [isNilV_ok e]; exact less_leaf k _ rfl⟩
    · cases h
  | emp => intro k v K h; cases v <;> simp only [Sk.take, reduceCtorEq] at h; exact ⟨_, h, less_leaf k _ rfl⟩
  | tnil => intro k v K h; cases v <;> simp only [Sk.take, reduceCtorEq] at h; exact ⟨_, h, less_leaf k _ rfl⟩
  | agg a b iha ihb =>
    intro k v K h
    cases v <;> simp only [Sk.take, reduceCtorEq] at h
    obtain ⟨x, h, l1⟩ := iha h
    obtain ⟨y, h, l2⟩ := ihb h
    exact ⟨(x, y), h, by simp only [Sk.fill, less]; exact ⟨l1, l2⟩⟩
  | tcons a b iha ihb =>
    intro k v K h
    cases v <;> simp only [Sk.take, reduceCtorEq] at h
    obtain ⟨x, h, l1⟩ := iha h
    obtain ⟨y, h, l2⟩ := ihb h
    exact ⟨(x, y), h, by simp only [Sk.fill, less]; exact ⟨l1, l2⟩⟩
  | ref r q =>
    intro k v K h
    cases v <;> simp only [Sk.take, reduceCtorEq] at h
    split at h
    · rename_i e; exact ⟨_, h, by rw [e.1, e.2]; exact less_leaf k _ rfl⟩
    · cases h
  | sub r q =>
    intro k v K h
    cases v <;> simp only [Sk.take, reduceCtorEq] at h
    split at h
    · rename_i e; exact ⟨_, h, by rw [e.1, e.2]; exact less_leaf k _ rfl⟩
    · cases h
  | ptr r q =>
    intro k v K h
    cases v <;> simp only [Sk.take, reduceCtorEq] at h
    split at h
    · rename_i e; exact ⟨_, h, by rw [e.1, e.2]; exact less_leaf k _ rfl⟩
    · cases h
  | pro t =>
    intro k v K h
    cases v <;> simp only [Sk.take, reduceCtorEq] at h
    split at h
    · rename_i e; subst e; exact ⟨_, h, less_leaf k _ rfl⟩
    · cases h
  | fn f c ih =>
    intro k v K h
    cases v <;> simp only [Sk.take, reduceCtorEq] at h
    split at h
    · rename_i e
      obtain ⟨x, h, l⟩ := ih h
      exact ⟨x, h, by simp only [Sk.fill, less]; exact ⟨e.symm, l⟩⟩
    · cases h
/-! ### States -/
structure SkB where
  mem : Option TypeId
  t : Ty
  m : Md
structure SkS where
  slots : List Sk
  boxes : List (Nat × SkB)
@[reducible] def slotsT : List Sk → Type
  | [] => Unit
  | s :: l => s.T × slotsT l
/-- Only a box with a block of its own has a block that was named. -/
@[reducible] def pinT : Option TypeId → Type
  | none => Unit
  | some _ => Option Nat
def pinV : (m : Option TypeId) → pinT m → Option Nat
  | none, _ => none
  | some _, p => p
@[reducible] def boxesT : List (Nat × SkB) → Type
  | [] => Unit
  | (_, b) :: l => (den b.t × pinT b.mem) × boxesT l
@[reducible] def SkS.T (s : SkS) : Type := slotsT s.slots × boxesT s.boxes
def slotsFill : (l : List Sk) → slotsT l → List SV
  | [], _ => []
  | s :: l, x => s.fill x.1 :: slotsFill l x.2
def boxesFill : (l : List (Nat × SkB)) → boxesT l → List (Nat × Bx)
  | [], _ => []
  | (i, b) :: l, x => (i, { mem := b.mem, t := b.t, m := b.m, x := x.1.1, pin := pinV b.mem x.1.2 }) :: boxesFill l x.2
def SkS.fill (s : SkS) (x : s.T) : St := ⟨slotsFill s.slots x.1, boxesFill s.boxes x.2⟩
section cps
variable {R : Type}
def slotsTake : (l : List Sk) → List SV → (slotsT l → Option R) → Option R
  | [], [], K => K ()
  | s :: l, v :: vs, K => s.take 0 v fun x => slotsTake l vs fun y => K (x, y)
  | _, _, _ => none
def pinTake : (m : Option TypeId) → Option Nat → (pinT m → Option R) → Option R
  | none, none, K => K ()
  | none, some _, _ => none
  | some _, p, K => K p
def boxesTake (bs : List (Nat × Bx)) : (l : List (Nat × SkB)) → (boxesT l → Option R) → Option R
  | [], K => K ()
  | (i, b) :: l, K => match bget bs i with
    | some c => if c.mem = b.mem ∧ c.m = b.m then (if h : c.t = b.t then pinTake b.mem c.pin fun p => boxesTake bs l fun y => K ((h ▸ c.x, p), y) else none) else none
    | none => none
def SkS.take (s : SkS) (st : St) (K : s.T → Option R) : Option R := slotsTake s.slots st.slots fun x => boxesTake st.boxes s.boxes fun y => K (x, y)
end cps
theorem slotsTake_some {T : Type} {r : T} : ∀ {l : List Sk} {vs : List SV} {K : slotsT l → Option T}, slotsTake l vs K = some r → ∃ x, K x = some r ∧ (slotsFill l x).length = vs.length ∧ ∀ n, less 0 (sget (slotsFill l x) n) (sget vs n)
  | [], [], K, h => ⟨(), h, rfl, fun n => trivial⟩
  | s :: l, v :: vs, K, h => by
    simp only [slotsTake] at h
    obtain ⟨x, h, l1⟩ := Sk.take_some h
    obtain ⟨y, h, l2, l3⟩ := slotsTake_some h
    refine ⟨(x, y), h, by simp [slotsFill, l2], fun n => ?_⟩
    cases n with
    | zero => exact l1
    | succ n => exact l3 n
  | [], _ :: _, K, h => by simp [slotsTake] at h
  | _ :: _, [], K, h => by simp [slotsTake] at h
theorem pinTake_some {T : Type} {r : T} : ∀ {m : Option TypeId} {q : Option Nat} {K : pinT m → Option T}, pinTake m q K = some r → ∃ p, pinV m p = q ∧ K p = some r
  | none, none, K, h => ⟨(), rfl, h⟩
  | none, some _, K, h => by cases h
  | some _, p, K, h => ⟨p, rfl, h⟩
theorem boxesTake_some {T : Type} {r : T} {bs : List (Nat × Bx)} : ∀ {l : List (Nat × SkB)} {K : boxesT l → Option T}, boxesTake bs l K = some r → ∃ x, K x = some r ∧ ∀ j b, bget (boxesFill l x) j = some b → bget bs j = some b
  | [], K, h => ⟨(), h, fun j b hb => by simp [boxesFill, bget] at hb⟩
  | (i, b) :: l, K, h => by
    simp only [boxesTake] at h
    split at h
    · rename_i c hc
      split at h
      · rename_i e
        split at h
        · rename_i ht
          obtain ⟨p, hp, h⟩ := pinTake_some h
          obtain ⟨y, h, l1⟩ := boxesTake_some h
          refine ⟨_, h, fun j b' hb => ?_⟩
          simp only [boxesFill, bget] at hb
          split at hb
          · rename_i ej; subst ej
            cases hb
            rw [hc]
            obtain ⟨mem, t, m, x, pin⟩ := c
            obtain ⟨e1, e2⟩ := e
            dsimp only at e1 e2 ht hp
            subst e1; subst e2; subst ht; subst hp
            rfl
          · exact l1 j b' hb
        · cases h
      · cases h
    · cases h
end Go.Proofs.Ytlgbhaigpecdoaa.V
