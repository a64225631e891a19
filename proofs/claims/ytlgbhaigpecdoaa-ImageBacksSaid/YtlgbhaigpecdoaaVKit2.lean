/- More words for what is printed: loops through told states, loops in step, bits. -/
import Derived.Test.YtlgbhaigpecdoaaVKit
set_option linter.unusedVariables false
set_option linter.unusedSimpArgs false
namespace Go.Proofs.Ytlgbhaigpecdoaa.V
open Go
theorem loop_go {X Y : Type} {g : X → Option (X ⊕ Y)} {x0 : X} {y : Y} (st : Nat → X) (m : Nat) (h0 : st 0 = x0) (h : ∀ j, j < m → g (st j) = some (.inl (st (j + 1)))) (he : g (st m) = some (.inr y)) : loopO g x0 = some y := by
  rw [← h0]; exact loop_at st m h he
theorem loop_sim {X X' Y Y' : Type} {g : X → Option (X ⊕ Y)} {g' : X' → Option (X' ⊕ Y')} (R : X → X' → Prop) (Q : Y → Y' → Prop) (μ : X → Nat)
    (h : ∀ x x', R x x' → (∃ y y', g x = some (.inr y) ∧ g' x' = some (.inr y') ∧ Q y y') ∨ (∃ z z', g x = some (.inl z) ∧ g' x' = some (.inl z') ∧ R z z' ∧ μ z < μ x)) :
    ∀ x x', R x x' → ∃ y y', loopO g x = some y ∧ loopO g' x' = some y' ∧ Q y y' := by
  have go : ∀ n x x', μ x < n → R x x' → ∃ y y', loopO g x = some y ∧ loopO g' x' = some y' ∧ Q y y' := by
    intro n
    induction n with
    | zero => intro x x' hn; omega
    | succ n ih =>
      intro x x' hn hr
      rcases h x x' hr with ⟨y, y', e1, e2, q⟩ | ⟨z, z', e1, e2, r, l⟩
      · exact ⟨y, y', loopO_out e1, loopO_out e2, q⟩
      · rw [loopO_next e1, loopO_next e2]
        exact ih z z' (by omega) r
  exact fun x x' hr => go (μ x + 1) x x' (by omega) hr
theorem bitop_xor (k : IntKind) (a b : Nat) (ha : a < 2 ^ k.bits) (hb : b < 2 ^ k.bits) : bitop k .xor a b = k.wrap ((a ^^^ b : Nat) : Int) := by
  have ha' : a % 2 ^ k.bits = a := Nat.mod_eq_of_lt ha
  have hb' : b % 2 ^ k.bits = b := Nat.mod_eq_of_lt hb
  simp only [bitop, BitVec.ofInt_natCast, BitVec.toNat_xor, BitVec.toNat_ofNat, ha', hb']
theorem bitop_and (k : IntKind) (a b : Nat) (ha : a < 2 ^ k.bits) (hb : b < 2 ^ k.bits) : bitop k .and a b = k.wrap ((a &&& b : Nat) : Int) := by
  have ha' : a % 2 ^ k.bits = a := Nat.mod_eq_of_lt ha
  have hb' : b % 2 ^ k.bits = b := Nat.mod_eq_of_lt hb
  simp only [bitop, BitVec.ofInt_natCast, BitVec.toNat_and, BitVec.toNat_ofNat, ha', hb']
theorem xor64 (a b : Nat) (ha : a < 9223372036854775808) (hb : b < 9223372036854775808) : bitop .i64 .xor (a : Int) (b : Int) = ((a ^^^ b : Nat) : Int) := by
  have hx : a ^^^ b < 2 ^ 63 := Nat.xor_lt_two_pow (by omega) (by omega)
  rw [bitop_xor .i64 a b (by simp only [IntKind.bits]; omega) (by simp only [IntKind.bits]; omega)]
  exact wi (by omega) (by omega)
theorem wu {n : Int} (h1 : 0 ≤ n) (h2 : n < 256) : IntKind.u8.wrap n = n := by rw [IntKind.wrap_u8]; omega
theorem take_succ_getD {α : Type} {d : α} {l : List α} {j : Nat} (h : j < l.length) : l.take (j + 1) = l.take j ++ [l.getD j d] := by
  rw [List.take_succ_eq_append_getElem h]
  simp [List.getD_eq_getElem?_getD, List.getElem?_eq_getElem h]
theorem flatMap_take_succ {α β : Type} {d : α} {l : List α} {j : Nat} (h : j < l.length) (f : α → List β) : (l.take (j + 1)).flatMap f = (l.take j).flatMap f ++ f (l.getD j d) := by
  rw [take_succ_getD (d := d) h]; simp
theorem flatMap_len {α β : Type} (f : α → List β) (k : Nat) : ∀ (l : List α), (∀ x ∈ l, (f x).length ≤ k) → (l.flatMap f).length ≤ l.length * k
  | [], _ => by simp
  | x :: l, h => by
    have h1 := h x (List.mem_cons_self ..)
    have h2 := flatMap_len f k l (fun y hy => h y (List.mem_cons_of_mem _ hy))
    simp only [List.flatMap_cons, List.length_append, List.length_cons]
    rw [Nat.add_mul]; omega
end Go.Proofs.Ytlgbhaigpecdoaa.V
