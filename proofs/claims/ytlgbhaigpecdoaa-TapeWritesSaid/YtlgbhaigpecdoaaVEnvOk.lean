/- The table of types, checked. -/
import Derived.Test.YtlgbhaigpecdoaaVSum
set_option linter.unusedVariables false
set_option linter.unusedSimpArgs false
namespace Go.Proofs.Ytlgbhaigpecdoaa.V
open Go

def eqV : Value → Value → Bool
  | .int k a, .int j b => decide (k = j) && decide (a = b)
  | .bool a, .bool b => a == b
  | .string a, .string b => a.data.toList.isEmpty && b.data.toList.isEmpty
  | .slice none 0 0, .slice none 0 0 => true
  | .nilIface, .nilIface => true
  | _, _ => false
def eqVs : List Value → List Value → Bool
  | [], [] => true
  | a :: l, b :: m => eqV a b && eqVs l m
  | _, _ => false
theorem eqV_ok : ∀ {a b : Value}, eqV a b = true → a = b := by
  intro a b h
  unfold eqV at h
  split at h
  · simp only [Bool.and_eq_true, decide_eq_true_eq] at h; rw [h.1, h.2]
  · simp only [beq_iff_eq] at h; rw [h]
  · rename_i x y
    simp only [Bool.and_eq_true, List.isEmpty_iff] at h
    have e1 : x = y := by
      cases x with
      | mk dx => cases y with
        | mk dy =>
          have h1 : dx = #[] := Array.toList_eq_nil_iff.1 h.1
          have h2 : dy = #[] := Array.toList_eq_nil_iff.1 h.2
          rw [h1, h2]
    rw [e1]
  · rfl
  · rfl
  · cases h
theorem eqVs_ok : ∀ {l m : List Value}, eqVs l m = true → l = m
  | [], [], _ => rfl
  | a :: l, b :: m, h => by
    simp only [eqVs, Bool.and_eq_true] at h
    rw [eqV_ok h.1, eqVs_ok h.2]
  | [], _ :: _, h => by simp [eqVs] at h
  | _ :: _, [], h => by simp [eqVs] at h
def infoB (P : Program) (t : TypeId) (te : TE) : Bool :=
  match P.info? t with
  | some i => decide (i.size = sz te.ty) && decide (i.bytes = te.bytes) && (!te.z || (match i.zero with | some z => eqVs z.cells.toList (zcells te.ty) | none => false))
  | none => false
def fieldsB (E : Env) (ty : Ty) : Nat → List Field → Bool
  | _, [] => true
  | j, f :: l => decide (f.offset = foff ty j) && (match E.get f.type with
    | some fe => decide ((fieldTys ty)[j]? = some fe.ty) && decide (sz fe.ty ≠ 0)
    | none => false) && fieldsB E ty (j + 1) l
def undB (P : Program) (E : Env) (t : TypeId) (te : TE) : Bool :=
  match te.d, P.underlying t with
  | .int k, some (.int j) => decide (j = k) && decide (te.ty = .int k)
  | .bool, some .bool => decide (te.ty = .bool)
  | .str, some .string => decide (te.ty = .str)
  | .slc e, some (.slice e') => decide (e' = e) && (match E.get e with | some ee => decide (te.ty = .slc ee.ty) | none => false)
  | .struct _, some (.struct fields) => structTy te.ty && decide (fields.size = (fieldTys te.ty).length) && fieldsB E te.ty 0 fields.toList
  | .other, some d => !d.isRow && decide (te.ty = .raw)
  | _, _ => false
def envB (P : Program) (E : Env) : Bool := E.all fun p => infoB P p.1 p.2 && undB P E p.1 p.2
theorem Env.mem : ∀ {E : Env} {t : TypeId} {te : TE}, E.get t = some te → (t, te) ∈ E
  | (j, b) :: l, t, te, h => by
    simp only [Env.get] at h
    split at h
    · rename_i e; subst e; cases h; exact List.mem_cons_self ..
    · exact List.mem_cons_of_mem _ (Env.mem h)
theorem fieldsB_ok {E : Env} {ty : Ty} : ∀ {l : List Field} {k : Nat}, fieldsB E ty k l = true → ∀ j f, l[j]? = some f → f.offset = foff ty (k + j) ∧ ∃ fe, E.get f.type = some fe ∧ (fieldTys ty)[k + j]? = some fe.ty ∧ sz fe.ty ≠ 0
  | [], k, _, j, f, hf => by simp at hf
  | g :: l, k, h, j, f, hf => by
    simp only [fieldsB, Bool.and_eq_true, decide_eq_true_eq] at h
    cases j with
    | zero =>
      simp at hf; subst hf
      obtain ⟨⟨h1, h2⟩, _⟩ := h
      split at h2
      · rename_i fe hfe
        simp only [Bool.and_eq_true, decide_eq_true_eq] at h2
        exact ⟨h1, fe, hfe, h2.1, h2.2⟩
      · cases h2
    | succ j =>
      have := fieldsB_ok h.2 j f (by simpa using hf)
      rw [show k + 1 + j = k + (j + 1) by omega] at this
      exact this
theorem env_ok {P : Program} {E : Env} (h : envB P E = true) : EnvOk P E := by
  intro t te ht
  have h1 := (List.all_eq_true.1 h) _ (Env.mem ht)
  simp only [Bool.and_eq_true] at h1
  obtain ⟨h1, h2⟩ := h1
  refine ⟨?_, ?_⟩
  · unfold infoB at h1
    split at h1
    · rename_i i hi
      simp only [Bool.and_eq_true, decide_eq_true_eq] at h1
      refine ⟨i, hi, h1.1.1, h1.1.2, fun hz => ?_⟩
      have h3 := h1.2
      rw [hz] at h3
      simp only [Bool.not_true, Bool.false_or] at h3
      split at h3
      · rename_i z hz2; exact ⟨z, hz2, eqVs_ok h3⟩
      · cases h3
    · cases h1
  · unfold undB at h2
    unfold UndOk
    split at h2
    · rename_i hd hu; rw [hd]; dsimp only
      simp only [Bool.and_eq_true, decide_eq_true_eq] at h2
      rw [hu, h2.1]; exact ⟨rfl, h2.2⟩
    · rename_i hd hu; rw [hd]; exact ⟨hu, by simpa using h2⟩
    · rename_i hd hu; rw [hd]; exact ⟨hu, by simpa using h2⟩
    · rename_i hd hu; rw [hd]; dsimp only
      simp only [Bool.and_eq_true, decide_eq_true_eq] at h2
      obtain ⟨h3, h4⟩ := h2
      subst h3
      refine ⟨hu, ?_⟩
      split at h4
      · rename_i ee hee; exact ⟨ee, hee, by simpa using h4⟩
      · cases h4
    · rename_i hd hu; rw [hd]; dsimp only
      simp only [Bool.and_eq_true, decide_eq_true_eq] at h2
      refine ⟨_, hu, h2.1.1, h2.1.2, fun j f hf => ?_⟩
      have := fieldsB_ok h2.2 j f (by simpa using hf)
      simpa using this
    · rename_i hd hu; rw [hd]; dsimp only
      simp only [Bool.and_eq_true, Bool.not_eq_true', decide_eq_true_eq] at h2
      exact ⟨_, hu, h2.1, h2.2⟩
    · cases h2
end Go.Proofs.Ytlgbhaigpecdoaa.V
