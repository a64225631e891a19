/- Operations that make memory. -/
import Derived.Test.YtlgbhaigpecdoaaVToC
set_option linter.unusedVariables false
set_option linter.unusedSimpArgs false
namespace Go.Proofs.Ytlgbhaigpecdoaa.V
open Go

theorem dflt_rep {w : World} {Im : Nat → Prop} : ∀ (t : Ty) (m : Md), Rep w Im t (fitM t m) (dflt t) (zcells t) []
  | .int k, m => by cases m <;> exact ⟨rfl, rfl⟩
  | .bool, m => by cases m <;> exact ⟨rfl, rfl⟩
  | .str, m => by cases m <;> exact ⟨rfl, rfl⟩
  | .raw, m => by cases m <;> exact ⟨rfl, rfl, rfl⟩
  | .unit, m => by cases m <;> exact ⟨rfl, rfl⟩
  | .pair a b, m => by
    cases m with
    | ro =>
      have h1 := dflt_rep (w := w) (Im := Im) a .ro
      have h2 := dflt_rep (w := w) (Im := Im) b .ro
      have e1 : fitM a .ro = .ro := by cases a <;> rfl
      have e2 : fitM b .ro = .ro := by cases b <;> rfl
      rw [e1] at h1; rw [e2] at h2
      exact ⟨_, _, [], [], rfl, rfl, h1, h2⟩
    | _ => exact ⟨_, _, [], [], rfl, rfl, dflt_rep a _, dflt_rep b _⟩
  | .slc t, m => by
    cases m with
    | own m => exact .inl ⟨rfl, ⟨none, rfl⟩, rfl⟩
    | _ => exact ⟨rfl, none, 0, rfl, Nat.le_refl _, fun h => absurd rfl h⟩
theorem zcells_len : ∀ t : Ty, (zcells t).length = sz t
  | .int _ => rfl
  | .bool => rfl
  | .str => rfl
  | .raw => rfl
  | .unit => rfl
  | .pair a b => by simp [zcells, sz, zcells_len a, zcells_len b]
  | .slc _ => rfl
/-- Zeros, one behind the other. -/
def zeros (t : Ty) : Nat → List Value
  | 0 => []
  | n + 1 => zcells t ++ zeros t n
theorem zeros_len (t : Ty) (n : Nat) : (zeros t n).length = n * sz t := by
  induction n with
  | zero => simp [zeros]
  | succ n ih => simp [zeros, ih, zcells_len, Nat.add_mul]; omega
theorem zeros_rep {w : World} {Im : Nat → Prop} (t : Ty) (m : Md) (n : Nat) (rest : List Value) : RepL (fun x cs h => Rep w Im t (fitM t m) x cs h) (List.replicate n (dflt t)) (zeros t n ++ rest) [] := by
  induction n with
  | zero => rfl
  | succ n ih => exact ⟨zcells t, zeros t n ++ rest, [], [], by simp [zeros], rfl, dflt_rep t m, ih⟩
theorem zeros_range {z : Array Value} {t : Ty} (hz : z.toList = zcells t) (hp : 0 < sz t) (n : Nat) : ((Array.range (n * sz t)).map (z[· % z.size]!)).toList = zeros t n := by
  have hsz : z.size = sz t := by rw [← zcells_len, ← hz]; simp
  apply List.ext_getElem?
  intro i
  by_cases hi : i < n * sz t
  · have h1 : (zeros t n)[i]? = (zcells t)[i % sz t]? := by
      clear hsz hz
      induction n generalizing i with
      | zero => simp at hi
      | succ n ih =>
        simp only [zeros]
        by_cases h : i < sz t
        · rw [List.getElem?_append_left (by rw [zcells_len]; exact h), Nat.mod_eq_of_lt h]
        · have h2 : sz t ≤ i := by omega
          rw [List.getElem?_append_right (by rw [zcells_len]; exact h2), zcells_len, ih (i - sz t) (by rw [Nat.add_mul] at hi; omega)]
          rw [Nat.mod_eq_sub_mod h2]
    rw [h1]
    have hm : i % sz t < sz t := Nat.mod_lt _ hp
    have : i < (List.range (n * sz t)).length := by simpa using hi
    simp [hi, hsz, ← hz]
    have hm2 : i % sz t < z.size := by rw [hsz]; exact hm
    rw [getElem!_pos z (i % sz t) hm2]
    simp [hm2]
  · have h1 : (zeros t n)[i]? = none := List.getElem?_eq_none (by rw [zeros_len]; omega)
    rw [h1]
    simp [hi]
section
variable {P : Program} {G : Gl} {I0 : Nat → Prop} {st st1 : St} {a : Act} {w w' : World} {Im : Nat → Prop} {R : Real} {hand hand' : Frag} {o : Oper} {T : Type} {K : St → Option T} {r : T} {Q : Exit → Act → World → Prop} {E : Env}
theorem wp_to {s : SV} {v : Value} (hrun : (execOp a.eval o).run P w = .ok (.value v) w') (hd : a.defers = []) (hI : ∀ b, I0 b → Im b) (h : Inv G st1 a.tmps w' Im R []) (hs : SVV w' Im R s v)
    (hK : K (st1.set o.dst s) = some r) : o.wp P a w (Post G I0 K r) Q := by
  unfold Oper.wp
  rw [hrun]
  exact ⟨_, hK, by rw [put_defers]; exact hd, Im, R, hI, h.put o.dst hs⟩
theorem wp_skip_to (hrun : (execOp a.eval o).run P w = .ok .skip w') (hd : a.defers = []) (hI : ∀ b, I0 b → Im b) (h : Inv G st1 a.tmps w' Im R [])
    (hK : K (st1.set o.dst .tnil) = some r) : o.wp P a w (Post G I0 K r) Q := by
  unfold Oper.wp
  rw [hrun]
  exact ⟨_, hK, by rw [put_defers]; exact hd, Im, R, hI, h.put o.dst .ofUndef⟩
theorem Inv.perm {vs : Array Value} (h : Inv G st vs w Im R hand) (hp : List.Perm hand hand') : Inv G st vs w Im R hand' := by
  have hk : List.Perm (keys hand) (keys hand') := hp.map _
  refine ⟨h.box, h.rep, h.sep.redis (fun i => ?_) (fun i j hij k h1 h2 => ?_) (fun i p hp' => ?_), h.slots, h.len, h.keep⟩
  · cases i with
    | zero => exact hk.nodup_iff.1 (h.sep.nod 0)
    | succ i => exact h.sep.nod (i + 1)
  · have m : ∀ i, k ∈ keys (own R hand' i) → k ∈ keys (own R hand i) := fun i hk' => by
      cases i with
      | zero => exact hk.mem_iff.2 hk'
      | succ i => exact hk'
    exact h.sep.sep i j hij k (m i h1) (m j h2)
  · cases i with
    | zero => exact ⟨0, hp.mem_iff.2 hp'⟩
    | succ i => exact ⟨i + 1, hp'⟩
theorem Inv.noHand {vs : Array Value} (h : Inv G st vs w Im R hand) : Inv G st vs w Im R ([] ++ hand) := h
/-- The address of a box, the row in a box. -/
theorem ptr_ok {i : Nat} {b : Bx} {rb : RB} (hm : b.mem.isSome = true) (R : Real) : SVV w Im (fun j => if j = i then some (b, rb) else R j) (.ptr i []) (.pointer (some ⟨(blkOf b rb), 0, none⟩)) :=
  .ofCell ⟨_, rfl, fun b2 rb2 hb2 => by
    simp only [if_true] at hb2; cases hb2
    obtain ⟨e, he⟩ := Option.isSome_iff_exists.1 hm
    exact ⟨trivial, rb.cs, (blkOf b rb), 0, by simp [nav, locOf, he], rfl⟩⟩ rfl
theorem ref_ok {i : Nat} {b : Bx} {rb : RB} {v : Value} (hcs : rb.cs = [v]) (ht : ∃ t, b.t = .slc t) (R : Real) : SVV w Im (fun j => if j = i then some (b, rb) else R j) (.ref i []) v :=
  .ofCell ⟨_, rfl, fun b2 rb2 hb2 => by
    simp only [if_true] at hb2; cases hb2
    exact ⟨trivial, ht, locOf b rb, by simp [nav, hcs]⟩⟩ rfl
theorem step_alloc (hE : EnvOk P E) (hd : a.defers = []) (hI : ∀ b, I0 b → Im b) (h : Inv G st a.tmps w Im R []) {e : TypeId} (ho : o.op = .alloc e) {te : TE} (ht : E.get e = some te) (hz : te.z = true) {d : Tmp} (hdst : o.dst = some d) {m : Md}
    (hk : K ((st.lay (d * 16) { mem := some e, t := te.ty, m := fitM te.ty m, x := dflt te.ty }).set (some d) (.ptr (d * 16) [])) = some r) : o.wp P a w (Post G I0 K r) Q := by
  obtain ⟨⟨i, hi⟩, _⟩ := hE e te ht
  obtain ⟨z, hz1, hz2⟩ := hi.zero hz
  have hrun : (execOp a.eval o).run P w = .ok (.value (.pointer (some ⟨w.heap.size, 0, none⟩))) (w.alloc (.cells z.cells e)) := by
    unfold execOp
    simp only [ho, Instr.alloc, zeroValue, typeInfo, newVar, newRow, Sem.run_bind]
    simp [hi.info, hz1]
  have h1 := (h.alloc z.cells e)
  have ez : z.cells = (zcells te.ty).toArray := by rw [← hz2]
  rw [ez] at h1
  have h2 := h1.lay (d * 16) (b := { mem := some e, t := te.ty, m := fitM te.ty m, x := dflt te.ty }) (rb := ⟨w.heap.size, zcells te.ty, []⟩) (dflt_rep te.ty m) rfl
  rw [ez] at hrun
  rw [← hdst] at hk
  exact wp_to hrun hd hI h2 (ptr_ok rfl R) hk
theorem step_make (hE : EnvOk P E) (hd : a.defers = []) (hI : ∀ b, I0 b → Im b) (h : Inv G st a.tmps w Im R []) {tid : TypeId} {l c : Operand} (ho : o.op = .makeSlice tid l c) {te ee : TE} (ht : E.get tid = some te) {e : TypeId} (hdd : te.d = .slc e)
    (hee : E.get e = some ee) (hz : ee.z = true) {d : Tmp} (hdst : o.dst = some d) {m : Md} {k1 k2 : IntKind} {n cp : Int} (hl : a.eval l = .int k1 n) (hc : a.eval c = .int k2 cp) (hb : 0 ≤ n ∧ n ≤ cp ∧ cp * ee.bytes ≤ (most : Int)) (hsz : 0 < sz ee.ty) (hby : 0 < ee.bytes)
    (hk : K ((st.lay (d * 16) { mem := none, t := .slc ee.ty, m := .own (fitM ee.ty m), x := List.replicate n.toNat (dflt ee.ty) }).set (some d) (.ref (d * 16) [])) = some r) : o.wp P a w (Post G I0 K r) Q := by
  have hu := (hE tid te ht).2
  unfold UndOk at hu; rw [hdd] at hu
  obtain ⟨hu, _⟩ := hu
  obtain ⟨⟨i, hi⟩, _⟩ := hE e ee hee
  obtain ⟨z, hz1, hz2⟩ := hi.zero hz
  have hcp : cp ≤ 9223372036854775807 := by
    have : cp * 1 ≤ cp * ee.bytes := Int.mul_le_mul_of_nonneg_left (by omega) (by omega)
    have e1 : (most : Int) = 140737488355328 := rfl
    omega
  have hr := run_make (P := P) w tid e i z hu hi.info hz1 k1 k2 n cp hb.1 hb.2.1 (by rw [hi.bytes, Int.mul_comm]; have e1 : (most : Int) = 140737488355328 := rfl; omega) hcp
  have hrun : (execOp a.eval o).run P w = .ok (.value (.slice (some ⟨w.heap.size, 0, none⟩) n.toNat cp.toNat)) (w.alloc (.cells (madeCells z.cells (cp.toNat * i.size)) e)) := by
    unfold execOp
    simp only [ho, hl, hc, Sem.run_bind, hr, Result.andThen_ok]; rfl
  have h1 := (h.alloc (madeCells z.cells (cp.toNat * i.size)) e)
  have hcells : (madeCells z.cells (cp.toNat * i.size)).toList = zeros ee.ty cp.toNat := by rw [hi.size]; exact zeros_range hz2 hsz cp.toNat
  have h2 := h1.lay (d * 16) (b := { mem := none, t := .slc ee.ty, m := .own (fitM ee.ty m), x := List.replicate n.toNat (dflt ee.ty) })
    (rb := ⟨0, [.slice (some ⟨w.heap.size, 0, none⟩) n.toNat cp.toNat], [(w.heap.size, (madeCells z.cells (cp.toNat * i.size), e))]⟩)
    (.inr ⟨w.heap.size, 0, _, e, cp.toNat, [], by simp, rfl, by simp; omega, by simp only [maxLen]; omega, by
      rw [size_madeCells, hi.size]; simp, by
      have : zeros ee.ty cp.toNat = zeros ee.ty n.toNat ++ (zeros ee.ty cp.toNat).drop (n.toNat * sz ee.ty) := by
        have hle : n.toNat ≤ cp.toNat := by omega
        obtain ⟨k, hk⟩ := Nat.le.dest hle
        rw [← hk]
        clear hk hle
        generalize n.toNat = nn
        induction nn with
        | zero => simp [zeros]
        | succ nn ih =>
          rw [show nn + 1 + k = (nn + k) + 1 by omega]
          simp only [zeros]
          rw [Nat.add_mul, Nat.one_mul, Nat.add_comm (nn * _), ← List.drop_drop]
          rw [show (zcells ee.ty ++ zeros ee.ty (nn + k)).drop (sz ee.ty) = zeros ee.ty (nn + k) by rw [← zcells_len]; simp]
          rw [List.append_assoc, ← ih]
      rw [hcells, List.drop_zero, this]
      exact zeros_rep ee.ty m n.toNat _⟩) rfl
  rw [← hdst] at hk
  exact wp_to hrun hd hI h2 (ref_ok rfl ⟨_, rfl⟩ R) hk
end
end Go.Proofs.Ytlgbhaigpecdoaa.V
