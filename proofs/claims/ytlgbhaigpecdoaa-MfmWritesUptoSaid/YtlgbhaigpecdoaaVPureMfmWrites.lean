/- The pure statement of MfmWrites: parts are written and read alike. -/
import Derived.Test.YtlgbhaigpecdoaaVPureMfmL
set_option linter.unusedVariables false
set_option linter.unusedSimpArgs false
namespace Go.Proofs.Ytlgbhaigpecdoaa.V
open Go

theorem tot_le {k : Nat} : ∀ {l : List Part}, (∀ p ∈ l, p.2.1.length ≤ k) → tot l ≤ l.length * (k + 1)
  | [], _ => by simp [tot]
  | p :: l, h => by
    have h1 := h p (List.mem_cons_self ..)
    have h2 := tot_le (l := l) (fun q hq => h q (List.mem_cons_of_mem _ hq))
    simp only [tot, szP, List.length_cons, Nat.add_mul]
    split <;> omega
theorem Pure.MfmWrites (x0 : den (.slc (.pair .bool (.pair (.slc (.int .u8)) .unit)))) (x1 : den (.slc (.int .i64))) (x2 : Int) (w0 : ∀ y0 ∈ x0, ((True) ∧ ((∀ y1 ∈ y0.2.1, ((Lit.int .u8 y1).wf = true)) ∧ (True)))) (s0 : List.length x0 ≤ 1048576 ∧ ∀ y0 ∈ x0, ((True) ∧ ((List.length y0.2.1 ≤ 1048576 ∧ ∀ y1 ∈ y0.2.1, (True)) ∧ (True)))) (w1 : ∀ y0 ∈ x1, ((Lit.int .i64 y0).wf = true)) (s1 : List.length x1 ≤ 1048576 ∧ ∀ y0 ∈ x1, (True)) (w2 : (Lit.int .i64 x2).wf = true) : f4 x0 x1 x2 = some ((true, ()), ()) := by
  have hl := s0.1
  have hp : ∀ p ∈ x0, p.2.1.length ≤ 1048576 := fun p hp => (s0.2 p hp).2.1.1
  have hb : partsOk x0 := fun p hp x hx => wf_u8 ((w0 p hp).2.1 x hx)
  have ht := tot_le hp
  have ht2 : x0.length * (1048576 + 1) ≤ 1048576 * (1048576 + 1) := Nat.mul_le_mul_right _ hl
  unfold f4 f4_k
  rw [begun28]
  simp only [some_bind, bne_self_eq_false, cond_false]
  rw [if_pos ⟨by decide, by simp⟩]
  rw [write29 x0 x2 hb (by omega) (fun p h => by have := hp p h; omega), read30, write31 x0 x2 (by omega) (by omega), read32]
  simp only [some_bind, beq_self_eq_true, cond_true]
  rw [eq33 _ _ (by have := mfmW_len x0 x2; omega)]
  simp only [some_bind, decide_true, cond_true]
  unfold f34 f34_k
  have hr := readR_ok x1 x2
  rw [eq93 _ _ (by omega) (fun p h => by have := (hr.2 p h).1; omega)]
  simp
end Go.Proofs.Ytlgbhaigpecdoaa.V
