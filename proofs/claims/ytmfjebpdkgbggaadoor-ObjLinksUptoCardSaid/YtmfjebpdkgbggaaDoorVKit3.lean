/- Words for loops over lists, with ways out; equal rows. -/
import Derived.Test.YtmfjebpdkgbggaaDoorVKit2
set_option linter.unusedVariables false
set_option linter.unusedSimpArgs false
namespace Go.Proofs.YtmfjebpdkgbggaaDoor.V
open Go
def foldE {A S Y : Type} (f : A → S → S ⊕ Y) (fin : S → Y) : List A → S → Y
  | [], s => fin s
  | a :: l, s => match f a s with
    | .inl s' => foldE f fin l s'
    | .inr y => y
theorem foldE_cons {A S Y : Type} (f : A → S → S ⊕ Y) (fin : S → Y) (a : A) (l : List A) (s : S) : foldE f fin (a :: l) s = match f a s with | .inl s' => foldE f fin l s' | .inr y => y := rfl
theorem loop_list {A S X Y : Type} {g : X → Option (X ⊕ Y)} (d : A) (xs : List A) (mk : Nat → S → X) (P : Nat → S → Prop) (f : A → S → S ⊕ Y) (fin : S → Y)
    (h : ∀ j s, j < xs.length → P j s → g (mk j s) = some (match f (xs.getD j d) s with | .inl s' => .inl (mk (j + 1) s') | .inr y => .inr y) ∧ ∀ s', f (xs.getD j d) s = .inl s' → P (j + 1) s')
    (he : ∀ s, P xs.length s → g (mk xs.length s) = some (.inr (fin s))) (s0 : S) (h0 : P 0 s0) {x0 : X} (hx : mk 0 s0 = x0) : loopO g x0 = some (foldE f fin xs s0) := by
  subst hx
  have go : ∀ (k j : Nat) (s : S), j + k = xs.length → P j s → loopO g (mk j s) = some (foldE f fin (xs.drop j) s) := by
    intro k
    induction k with
    | zero =>
      intro j s hj hp
      have : j = xs.length := by omega
      subst this
      rw [loopO_out (he s hp), List.drop_length]; rfl
    | succ k ih =>
      intro j s hj hp
      have hlt : j < xs.length := by omega
      obtain ⟨h1, h2⟩ := h j s hlt hp
      have hd : xs.drop j = xs.getD j d :: xs.drop (j + 1) := by
        rw [List.drop_eq_getElem_cons hlt]
        simp [List.getD_eq_getElem?_getD, List.getElem?_eq_getElem hlt]
      rw [hd, foldE_cons]
      cases hf : f (xs.getD j d) s with
      | inl s' =>
        rw [hf] at h1
        rw [loopO_next h1]
        exact ih (j + 1) s' (by omega) (h2 s' hf)
      | inr y =>
        rw [hf] at h1
        rw [loopO_out h1]
  have := go xs.length 0 s0 (by omega) h0
  simpa using this
theorem loop_all {A S X Y : Type} {g : X → Option (X ⊕ Y)} (d : A) (xs : List A) (mk : Nat → S → X) (P : Nat → S → Prop) (f : S → A → S) {y : Y}
    (h : ∀ j s, j < xs.length → P j s → g (mk j s) = some (.inl (mk (j + 1) (f s (xs.getD j d)))) ∧ P (j + 1) (f s (xs.getD j d)))
    (s0 : S) (h0 : P 0 s0) {x0 : X} (hx : mk 0 s0 = x0) (he : P xs.length (xs.foldl f s0) → g (mk xs.length (xs.foldl f s0)) = some (.inr y)) : loopO g x0 = some y ∧ P xs.length (xs.foldl f s0) := by
  subst hx
  have go : ∀ (k j : Nat) (s : S), j + k = xs.length → P j s → (xs.drop j).foldl f s = xs.foldl f s0 → loopO g (mk j s) = some y ∧ P xs.length (xs.foldl f s0) := by
    intro k
    induction k with
    | zero =>
      intro j s hj hp hf
      have : j = xs.length := by omega
      subst this
      rw [List.drop_length] at hf
      have hf : s = xs.foldl f s0 := hf
      rw [hf] at hp ⊢
      exact ⟨loopO_out (he hp), hp⟩
    | succ k ih =>
      intro j s hj hp hf
      have hlt : j < xs.length := by omega
      obtain ⟨h1, h2⟩ := h j s hlt hp
      have hd : xs.drop j = xs.getD j d :: xs.drop (j + 1) := by
        rw [List.drop_eq_getElem_cons hlt]
        simp [List.getD_eq_getElem?_getD, List.getElem?_eq_getElem hlt]
      rw [hd, List.foldl_cons] at hf
      rw [loopO_next h1]
      exact ih (j + 1) _ (by omega) h2 hf
  exact go xs.length 0 s0 (by omega) h0 (by simp)
theorem dlt {j n : Nat} (h : j < n) : decide ((j : Int) < (n : Int)) = true := by simp; omega
theorem dge {n : Nat} : decide ((n : Int) < (n : Int)) = false := by simp
theorem in_row {α : Type} {l : List α} {j : Nat} (h : j < l.length) : (0 : Int) ≤ (j : Int) ∧ (j : Int) < ((List.length l : Nat) : Int) := ⟨by omega, by omega⟩
theorem wj {j : Nat} (h : j < 9223372036854775807) : IntKind.i64.wrap ((j : Int) + 1) = ((j + 1 : Nat) : Int) := by rw [wi (by omega) (by omega)]; omega
end Go.Proofs.YtmfjebpdkgbggaaDoor.V
