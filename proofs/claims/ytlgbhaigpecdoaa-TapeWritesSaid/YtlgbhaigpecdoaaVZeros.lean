/- A nil row that is grown by zeros. -/
import Derived.Test.YtlgbhaigpecdoaaVMisc
set_option linter.unusedVariables false
set_option linter.unusedSimpArgs false
namespace Go.Proofs.Ytlgbhaigpecdoaa.V
open Go

section
variable {P : Program} {G : Gl} {I0 : Nat → Prop} {st st1 : St} {a : Act} {vs : Array Value} {w w' : World} {Im Im' : Nat → Prop} {R R' : Real} {hand hand' : Frag} {o : Oper} {T : Type} {K : St → Option T} {r0 : T} {Q : Exit → Act → World → Prop} {E : Env}
theorem run_append_zeros (w : World) (t tx ty e : TypeId) (k k2 : IntKind) (i : TypeInfo) (z : Value) (ht : P.underlying t = some (.slice e)) (hk : P.underlying tx = some (.int k)) (hi : P.info? e = some i) (hz : i.zero = some z) (n : Nat) (h0 : 0 < n) (hs : 0 < i.size)
    (hb : n * i.bytes ≤ 140737488355328) (hn : n ≤ 140737488355328) :
    (Builtin.append_ #[t, tx] ty #[.slice none 0 0, .int k2 n]).run P w =
      .ok (.slice (some ⟨w.heap.size, 0, none⟩) n (grownCap w n 0 e)) (w.drew.alloc (.cells (Builtin.zeroCells z.cells n ++ Builtin.zeroCells z.cells (grownCap w n 0 e - n)) e)) := by
  have hfit := growslice_fits (need := n) (old := 0) h0 hb
  have hw : IntKind.i64.wrap (n : Int) = n := by rw [IntKind.wrap_i64]; omega
  have h1 : ¬ ((n : Int) < 0) := by omega
  have h2 : ¬ (281474976710656 < (n : Int) * (i.bytes : Int)) := by
    have : ((n * i.bytes : Nat) : Int) ≤ ((140737488355328 : Nat) : Int) := Int.ofNat_le.2 hb
    rw [Int.natCast_mul] at this; omega
  have h3 : ¬ (n = 0 ∨ i.size = 0) := by omega
  have h4 : ¬ n = 0 := by omega
  have h5 : ¬ (9223372036854775807 < (n : Int)) := by omega
  have h6 : ¬ (281474976710656 < Builtin.nextslicecap n 0 * i.bytes) := by omega
  have h7 : ¬ (n * i.size = 0) := by rw [Nat.mul_eq_zero]; exact h3
  simp [Builtin.append_, run_underlying ht, run_underlying hk, sizeOf, typeInfo, zeroValue, hi, hz, Go.asInt, asIntOf, hw, h1, h2, h3, h4, h5, h6, Question.forced, newRow, grownCap, run_firstCells_none]
  intro h8; exact absurd h8 h7
theorem step_zeros (hE : EnvOk P E) (hd : a.defers = []) (hI : ∀ b, I0 b → Im b) (h : Inv G st a.tmps w Im R []) {cl : Call} (ho : o.op = .call cl) (hc : cl.callee = .builtin .append) {x y : Operand} (harg : cl.args = #[x, y]) {t u e : TypeId} (hty : cl.argTypes = #[t, u])
    {te ue ee : TE} (ht : E.get t = some te) (hdd : te.d = .slc e) (hue : E.get u = some ue) {k k2 : IntKind} (hdu : ue.d = .int k) (hee : E.get e = some ee) (hz : ee.z = true) {d : Tmp} (hdst : o.dst = some d) {m : Md} {n : Int} (hx : a.eval x = .slice none 0 0) (hy : a.eval y = .int k2 n)
    (hb : 0 < n ∧ n * ee.bytes ≤ (most : Int) ∧ 0 < sz ee.ty ∧ 0 < ee.bytes)
    (hk : K ((st.lay (d * 16) { mem := none, t := .slc ee.ty, m := .own (fitM ee.ty m), x := List.replicate n.toNat (dflt ee.ty) }).set (some d) (.ref (d * 16) [])) = some r0) : o.wp P a w (Post G I0 K r0) Q := by
  obtain ⟨⟨i, hi⟩, _⟩ := hE e ee hee
  obtain ⟨z, hz1, hz2⟩ := hi.zero hz
  obtain ⟨b0, b1, b2, b3⟩ := hb
  obtain ⟨n', rfl⟩ : ∃ n' : Nat, n = (n' : Int) := ⟨n.toNat, by omega⟩
  have e1 : most = 140737488355328 := rfl
  have hb' : n' * ee.bytes ≤ 140737488355328 := by
    have : ((n' * ee.bytes : Nat) : Int) ≤ ((140737488355328 : Nat) : Int) := by rw [Int.natCast_mul]; rw [e1] at b1; exact b1
    exact Int.ofNat_le.1 this
  have hn' : n' ≤ 140737488355328 := Nat.le_trans (Nat.le_mul_of_pos_right _ b3) hb'
  have hun := (hE u ue hue).2
  unfold UndOk at hun; rw [hdu] at hun
  have hr := run_append_zeros (P := P) w t u o.type e k k2 i z (hE.slc ht hdd).1 hun.1 hi.info hz1 n' (by omega) (by rw [hi.size]; exact b2) (by rw [hi.bytes]; exact hb') hn'
  have hrun : (execOp a.eval o).run P w = .ok (.value (.slice (some ⟨w.heap.size, 0, none⟩) n' (grownCap w n' 0 e))) (w.drew.alloc (.cells (Builtin.zeroCells z.cells n' ++ Builtin.zeroCells z.cells (grownCap w n' 0 e - n')) e)) := by
    simp [execOp, ho, resolve, invoke, builtin, hc, harg, hty, hx, hy, hr, Result.andThen]
  have hge := grownCap_ge w n' 0 e
  have hcm := grownCap_le_maxLen w n' 0 e (by simp only [maxLen]; omega)
  have hzs : z.cells.size = sz ee.ty := by rw [← zcells_len, ← hz2]; simp
  have hzc : (Builtin.zeroCells z.cells n').toList = zeros ee.ty n' := by
    have := zeros_range (z := z.cells) hz2 b2 n'
    rw [← this]
    simp [Builtin.zeroCells, hzs]
  have h1 := h.drew.alloc (Builtin.zeroCells z.cells n' ++ Builtin.zeroCells z.cells (grownCap w n' 0 e - n')) e
  have h2 := h1.lay (d * 16) (b := { mem := none, t := .slc ee.ty, m := .own (fitM ee.ty m), x := List.replicate n' (dflt ee.ty) })
    (rb := ⟨0, [.slice (some ⟨w.heap.size, 0, none⟩) n' (grownCap w n' 0 e)], [(w.heap.size, (Builtin.zeroCells z.cells n' ++ Builtin.zeroCells z.cells (grownCap w n' 0 e - n'), e))]⟩)
    (.inr ⟨w.heap.size, 0, _, e, grownCap w n' 0 e, [], by simp, rfl, by simpa using hge, hcm, by
      simp only [Array.size_append, size_zeroCells, hzs, ← Nat.add_mul, Nat.zero_add]
      exact Nat.mul_le_mul_right _ (by omega), by
      rw [Array.toList_append, hzc, List.drop_zero]
      exact zeros_rep ee.ty m n' _⟩) rfl
  rw [← hdst] at hk
  exact wp_to hrun hd hI h2 (ref_ok rfl ⟨_, rfl⟩ R) hk
end
end Go.Proofs.Ytlgbhaigpecdoaa.V
