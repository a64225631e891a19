/- Printed. -/
import Derived.Test.YtmfjebpdkgbggaaVExt
set_option linter.unusedVariables false
set_option linter.unusedSimpArgs false
set_option maxRecDepth 100000
namespace Go.Proofs.Ytmfjebpdkgbggaa.V
open Go
noncomputable def f71_code : Code := (Try.f71.body).getD .skip
noncomputable def f71_fx : Fx := { E := env, T := [], H := [], O := [], nodes := [] }
noncomputable def f71_k {R : Type} (a0 : List Int) (k : (List Int × Unit) × (Unit) → Option R) : Option R :=
 (nilT (List.isEmpty a0)
 (k (([], ()), ()))
 (if (0 + List.length a0) * 1 ≤ most ∧ 0 < 1 ∧ 0 < 1 then (let r0 : List Int := ([] ++ a0)
  (k ((r0, ()), ()))) else none))
noncomputable def f71 (a0 : List Int) : Option ((List Int × Unit) × (Unit)) := f71_k a0 some
noncomputable def f71_sm : Sm := { ps := [.ro (.slc (.int .u8))], rs := [((.slc (.int .u8)), (.own .ro))], F := fun x => f71 x.1 }
theorem f71_m (x : ArgT [.ro (.slc (.int .u8))]) : codeS f71_fx f71_code (start [.ro (.slc (.int .u8))] [] x 8) (finK env [.tmp 2] [.ro (.slc (.int .u8))] [((.slc (.int .u8)), (.own .ro))]) = f71_k x.1 (fun r => some (r, [])) := by kernel_rfl
theorem f71_n {R : Type} (a0 : List Int) (k : (List Int × Unit) × (Unit) → Option R) : f71_k a0 k = (f71 a0).bind k := by
  simp only [f71, f71_k, cond_bind, ite_bind, bind_bind, some_bind, none_bind, elim_bind, whenS_bind]
  rcases a0 with _ | ⟨x, l⟩ <;> simp [nilT, ite_bind, most]
theorem f71_ok : SmOk Try.prog 71 f71_sm :=
  sum_of (c := f71_fx) (fn := Try.f71) (code := f71_code) (sm := f71_sm) mixed (env_ok env_envB) (TabsOk.all trivial) Try.func71 (by kernel_rfl)
   ((LoopsOk.of (l := []) (by kernel_rfl) trivial))
   (no_tails (by kernel_rfl)) rfl
   (fun ks x hl => by
    have hk : ks = [] := List.length_eq_zero_iff.1 hl
    subst hk
    exact (f71_m x).trans (f71_n _ _))
theorem f71_c : CalOk Try.prog 71 f71_sm := .inl ⟨f71_ok, ⟨Try.f71, Try.func71, by kernel_rfl, by kernel_rfl⟩⟩
noncomputable def f70_code : Code := (Try.f70.body).getD .skip
noncomputable def f70_fx : Fx := { E := env, T := [], H := [], O := [], nodes := [] }
noncomputable def f70_k {R : Type} (a0 : List (List Int)) (k : (List (List Int) × Unit) × (Unit) → Option R) : Option R :=
 (nilT (List.isEmpty a0)
 (k (([], ()), ()))
 (if (0 + List.length a0) * 24 ≤ most ∧ 0 < 24 ∧ 0 < 1 then (let r0 : List (List Int) := ([] ++ a0)
  (k ((r0, ()), ()))) else none))
noncomputable def f70 (a0 : List (List Int)) : Option ((List (List Int) × Unit) × (Unit)) := f70_k a0 some
noncomputable def f70_sm : Sm := { ps := [.ro (.slc (.slc (.int .u8)))], rs := [((.slc (.slc (.int .u8))), (.own .ro))], F := fun x => f70 x.1 }
theorem f70_m (x : ArgT [.ro (.slc (.slc (.int .u8)))]) : codeS f70_fx f70_code (start [.ro (.slc (.slc (.int .u8)))] [] x 8) (finK env [.tmp 2] [.ro (.slc (.slc (.int .u8)))] [((.slc (.slc (.int .u8))), (.own .ro))]) = f70_k x.1 (fun r => some (r, [])) := by kernel_rfl
theorem f70_n {R : Type} (a0 : List (List Int)) (k : (List (List Int) × Unit) × (Unit) → Option R) : f70_k a0 k = (f70 a0).bind k := by
  simp only [f70, f70_k, cond_bind, ite_bind, bind_bind, some_bind, none_bind, elim_bind, whenS_bind]
  rcases a0 with _ | ⟨x, l⟩ <;> simp [nilT, ite_bind, most]
theorem f70_ok : SmOk Try.prog 70 f70_sm :=
  sum_of (c := f70_fx) (fn := Try.f70) (code := f70_code) (sm := f70_sm) mixed (env_ok env_envB) (TabsOk.all trivial) Try.func70 (by kernel_rfl)
   ((LoopsOk.of (l := []) (by kernel_rfl) trivial))
   (no_tails (by kernel_rfl)) rfl
   (fun ks x hl => by
    have hk : ks = [] := List.length_eq_zero_iff.1 hl
    subst hk
    exact (f70_m x).trans (f70_n _ _))
end Go.Proofs.Ytmfjebpdkgbggaa.V
