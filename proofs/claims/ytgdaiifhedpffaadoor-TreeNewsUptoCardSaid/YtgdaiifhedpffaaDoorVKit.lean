/- Words for what is printed: loops, numbers, rows. -/
import Derived.Test.YtgdaiifhedpffaaDoorVNode
import Derived.ProofKit
set_option linter.unusedVariables false
set_option linter.unusedSimpArgs false
namespace Go.Proofs.YtgdaiifhedpffaaDoor.V
open Go
theorem loop_at {X Y : Type} {g : X → Option (X ⊕ Y)} (st : Nat → X) (m : Nat) {y : Y} (h : ∀ j, j < m → g (st j) = some (.inl (st (j + 1)))) (he : g (st m) = some (.inr y)) : loopO g (st 0) = some y := by
  induction m generalizing st with
  | zero => exact loopO_out he
  | succ m ih =>
    rw [loopO_next (h 0 (by omega))]
    exact ih (fun j => st (j + 1)) (fun j hj => h (j + 1) (by omega)) he
theorem first_of (p : Nat → Bool) : ∀ n, (∃ m, m < n ∧ p m = true ∧ ∀ j, j < m → p j = false) ∨ ∀ j, j < n → p j = false
  | 0 => .inr fun j h => by omega
  | n + 1 => by
    rcases first_of p n with ⟨m, h1, h2, h3⟩ | h
    · exact .inl ⟨m, by omega, h2, h3⟩
    · cases hp : p n with
      | true => exact .inl ⟨n, by omega, hp, h⟩
      | false =>
        refine .inr fun j hj => ?_
        · rcases Nat.lt_or_ge j n with h1 | h1
          · exact h j h1
          · have : j = n := by omega
            rw [this]; exact hp
theorem search {Y : Type} {g : Int → Option (Int ⊕ Y)} (n : Nat) (p : Nat → Bool) (y0 : Nat → Y) (y1 : Y) (hin : ∀ j, j < n → g (j : Int) = some (if p j = true then .inr (y0 j) else .inl ((j : Int) + 1))) (hout : g (n : Int) = some (.inr y1)) :
    (∃ m, m < n ∧ p m = true ∧ (∀ j, j < m → p j = false) ∧ loopO g 0 = some (y0 m)) ∨ ((∀ j, j < n → p j = false) ∧ loopO g 0 = some y1) := by
  have go : ∀ m, m ≤ n → (∀ j, j < m → p j = false) → ∀ j, j < m → g (j : Int) = some (.inl ((j + 1 : Nat) : Int)) := fun m hm hp j hj => by
    rw [hin j (by omega), if_neg (by rw [hp j hj]; simp)]; rfl
  rcases first_of p n with ⟨m, h1, h2, h3⟩ | h
  · exact .inl ⟨m, h1, h2, h3, loop_at (fun j => (j : Int)) m (go m (by omega) h3) (by show g (m : Int) = _; rw [hin m h1, if_pos h2])⟩
  · exact .inr ⟨h, loop_at (fun j => (j : Int)) n (go n (Nat.le_refl _) h) hout⟩
theorem wi {n : Int} (h1 : -9223372036854775808 ≤ n) (h2 : n ≤ 9223372036854775807) : IntKind.i64.wrap n = n := by rw [IntKind.wrap_i64]; omega
theorem most_eq : most = 140737488355328 := rfl
theorem getD_ext {α : Type} {a b : List α} (d : α) (hl : a.length = b.length) (h : ∀ j, j < a.length → a.getD j d = b.getD j d) : a = b := by
  apply List.ext_getElem hl
  intro j h1 h2
  have := h j h1
  simpa [List.getD_eq_getElem?_getD, List.getElem?_eq_getElem h1, List.getElem?_eq_getElem h2] using this
theorem getD_mem {α : Type} {a : List α} {d : α} {j : Nat} (h : j < a.length) : a.getD j d ∈ a := by
  simp only [List.getD_eq_getElem?_getD, List.getElem?_eq_getElem h, Option.getD_some]
  exact List.getElem_mem h
theorem mem_getD {α : Type} {a : List α} (d : α) {x : α} (h : x ∈ a) : ∃ j, j < a.length ∧ a.getD j d = x := by
  obtain ⟨j, hj, e⟩ := List.getElem_of_mem h
  exact ⟨j, hj, by simp [List.getD_eq_getElem?_getD, List.getElem?_eq_getElem hj, e]⟩
theorem set_getD {α : Type} {a : List α} {d : α} {j : Nat} (h : j < a.length) : a.set j (a.getD j d) = a := by
  apply List.ext_getElem (by simp)
  intro i h1 h2
  rw [List.getElem_set]
  split
  · rename_i e; subst e
    simp [List.getD_eq_getElem?_getD, List.getElem?_eq_getElem h2]
  · rfl
theorem strEq_b2s {a b : List Int} (ha : ∀ x ∈ a, 0 ≤ x ∧ x < 256) (hb : ∀ x ∈ b, 0 ≤ x ∧ x < 256) : strEq (b2s a) (b2s b) = decide (a = b) := by
  have inj : ∀ {a b : List Int}, (∀ x ∈ a, 0 ≤ x ∧ x < 256) → (∀ x ∈ b, 0 ≤ x ∧ x < 256) → (a.map fun n => UInt8.ofNat n.toNat) = (b.map fun n => UInt8.ofNat n.toNat) → a = b := by
    intro a
    induction a with
    | nil => intro b _ _ h; cases b with
      | nil => rfl
      | cons _ _ => simp at h
    | cons x a ih =>
      intro b ha hb h
      cases b with
      | nil => simp at h
      | cons y b =>
        simp only [List.map_cons, List.cons.injEq] at h
        have h1 := ha x (List.mem_cons_self ..)
        have h2 := hb y (List.mem_cons_self ..)
        have e : x.toNat = y.toNat := by
          have := congrArg UInt8.toNat h.1
          simp only [UInt8.toNat_ofNat'] at this
          have e1 : x.toNat % 2 ^ 8 = x.toNat := Nat.mod_eq_of_lt (by omega)
          have e2 : y.toNat % 2 ^ 8 = y.toNat := Nat.mod_eq_of_lt (by omega)
          omega
        rw [ih (fun z hz => ha z (List.mem_cons_of_mem _ hz)) (fun z hz => hb z (List.mem_cons_of_mem _ hz)) h.2]
        have : x = y := by omega
        rw [this]
  have tl : ∀ l : List UInt8, (ByteArray.mk l.toArray).toList = l := fun l => by
    simp [ByteArray.toList_eq]
  unfold strEq b2s
  by_cases h : a = b
  · subst h; simp
  · rw [decide_eq_false h]
    rw [beq_eq_false_iff_ne]
    intro e
    rw [tl, tl] at e
    exact h (inj ha hb e)
end Go.Proofs.YtgdaiifhedpffaaDoor.V
