/- Whether a row is nil. -/
import Derived.Test.YtlgbhaigpecdoaaVZeros
import Derived.Laws.Cover3
set_option linter.unusedVariables false
set_option linter.unusedSimpArgs false
namespace Go.Proofs.Ytlgbhaigpecdoaa.V
open Go

section
variable {P : Program} {G : Gl} {I0 : Nat → Prop} {st st1 : St} {a : Act} {vs : Array Value} {w w' : World} {Im Im' : Nat → Prop} {R R' : Real} {hand hand' : Frag} {o : Oper} {T : Type} {K : St → Option T} {r0 : T} {Q : Exit → Act → World → Prop} {E : Env}
theorem nilT_some {b : Bool} {x y : Option T} {r : T} (h : nilT b x y = some r) : y = some r ∧ (b = true → x = some r) := by
  unfold nilT at h
  split at h
  · split at h
    · rename_i e; exact ⟨by rw [← e]; exact h, fun _ => h⟩
    · cases h
  · rename_i hb; exact ⟨h, fun hh => absurd hh hb⟩
theorem nil_some {op : BinOp} {s : SV} {K : Bool → Option T} {u : Value} (h : nilS op s K = some r0) (hs : SVV w Im R s u) : ∃ A l c, u = .slice A l c ∧ ((op = .eql ∧ K A.isNone = some r0) ∨ (op = .neq ∧ K (!A.isNone) = some r0)) := by
  unfold nilS at h
  split at h
  · rename_i t xs
    have hx := hs.cell (by simp) (by simp) (by simp) rfl
    have hx : Rep w Im (.slc t) .ro xs [u] [] := hx
    obtain ⟨h0, A, cap, e, hc, hr⟩ := hx
    simp at e; subst e
    refine ⟨A, _, _, rfl, ?_⟩
    split at h
    · obtain ⟨h1, h2⟩ := nilT_some h
      refine .inl ⟨rfl, ?_⟩
      cases xs with
      | nil => cases A with
        | none => exact h2 rfl
        | some a => exact h1
      | cons x xs =>
        obtain ⟨b, o, c, e, fz, hA, _⟩ := hr (by simp)
        rw [hA]; exact h1
    · obtain ⟨h1, h2⟩ := nilT_some h
      refine .inr ⟨rfl, ?_⟩
      cases xs with
      | nil => cases A with
        | none => exact h2 rfl
        | some a => exact h1
      | cons x xs =>
        obtain ⟨b, o, c, e, fz, hA, _⟩ := hr (by simp)
        rw [hA]; exact h1
    · cases h
  · have hv := hs.raw
    refine ⟨none, 0, 0, hv, ?_⟩
    split at h
    · exact .inl ⟨rfl, h⟩
    · exact .inr ⟨rfl, h⟩
    · cases h
  · cases h
theorem step_nil (hE : EnvOk P E) (hd : a.defers = []) (hI : ∀ b, I0 b → Im b) (h : Inv G st a.tmps w Im R []) {op : BinOp} {t : TypeId} {x y : Operand} {b : TypeId} (ho : o.op = .binOp op t x y b) (hy : isNilC y = true) (ht : slcId E t = true)
    (hk : nilS op (st.ev x) (fun b => K (st.set o.dst (.con .bool b))) = some r0) : o.wp P a w (Post G I0 K r0) Q := by
  obtain ⟨A, l, c, hu, hk2⟩ := nil_some hk (h.ev x)
  have ey : a.eval y = .slice none 0 0 := by
    unfold isNilC at hy
    split at hy
    · rfl
    · cases hy
  have hs : ∃ e, P.underlying t = some (.slice e) := by
    unfold slcId at ht
    split at ht
    · rename_i te hte
      split at ht
      · rename_i e hdd
        exact ⟨e, (hE.slc hte hdd).1⟩
      · cases ht
    · cases ht
  obtain ⟨e, hs⟩ := hs
  have hq := run_equal_slice_nil (P := P) w t e A l c hs
  rcases hk2 with ⟨rfl, hk2⟩ | ⟨rfl, hk2⟩
  · refine wp_value (v := .bool A.isNone) ?_ hd hI h (.ofBool _) hk2
    simp only [execOp, ho, hu, ey]
    rw [Sem.run_bind]
    have eg : (eqGuard .eql t x y (.slice A l c) (.slice none 0 0)).run P w = .ok () w := by unfold eqGuard; simp
    rw [Sem.run_bind, eg]
    show (((do pure (.bool (← Op.equal t (.slice A l c) (.slice none 0 0))) : Sem Value)).run P w).andThen _ = _
    simp only [Sem.run_bind, hq, Result.andThen_ok]; rfl
  · refine wp_value (v := .bool (!A.isNone)) ?_ hd hI h (.ofBool _) hk2
    simp only [execOp, ho, hu, ey]
    rw [Sem.run_bind]
    have eg : (eqGuard .neq t x y (.slice A l c) (.slice none 0 0)).run P w = .ok () w := by unfold eqGuard; simp
    rw [Sem.run_bind, eg]
    show (((do pure (.bool (!(← Op.equal t (.slice A l c) (.slice none 0 0)))) : Sem Value)).run P w).andThen _ = _
    simp only [Sem.run_bind, hq, Result.andThen_ok]; rfl
end
end Go.Proofs.Ytlgbhaigpecdoaa.V
