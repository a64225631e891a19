/- Printed. -/
import Derived.Test.YtlgbhaigpecdoaaVFnSectA
set_option linter.unusedVariables false
set_option linter.unusedSimpArgs false
set_option maxRecDepth 100000
namespace Go.Proofs.Ytlgbhaigpecdoaa.V
open Go
noncomputable def f110_code : Code := (Try.f110.body).getD .skip
noncomputable def f110_fx : Fx := { E := env, T := [(141, f141_sm)], H := [], O := [], nodes := [] }
noncomputable def f110_k {R : Type} (a0 : List Int) (k : (List Int × Bool × Unit) × (Unit) → Option R) : Option R :=
 (cond (decide (((List.length a0 : Nat) : Int) < (2 : Int)))
 (k (([], (false, ())), ()))
 ((f141 a0).bind fun r0 =>
  (cond (r0.1.1 != (0 : Int))
  (k (([], (false, ())), ()))
  (let v1 : Int := (IntKind.i64.wrap (((List.length a0 : Nat) : Int) - (2 : Int)))
   (if (0 : Int) ≤ (0 : Int) ∧ (0 : Int) ≤ v1 ∧ v1 ≤ ((List.length a0 : Nat) : Int) then (if (0 + List.length (List.take ((Int.toNat v1) - 0) (List.drop 0 a0))) * 1 ≤ most ∧ 0 < 1 ∧ 0 < 1 then (let r2 : List Int := ([] ++ (List.take ((Int.toNat v1) - 0) (List.drop 0 a0)))
   (k ((r2, (true, ())), ()))) else none) else none)))))
noncomputable def f110 (a0 : List Int) : Option ((List Int × Bool × Unit) × (Unit)) := f110_k a0 some
noncomputable def f110_sm : Sm := ⟨[.ro (.slc (.int .u8))], [((.slc (.int .u8)), (.own .ro)), (.bool, .ro)], fun x => f110 x.1⟩
theorem f110_m (x : ArgT [.ro (.slc (.int .u8))]) : codeS f110_fx f110_code (start [.ro (.slc (.int .u8))] [] x 19) (finK env [.tmp 2, .tmp 3] [.ro (.slc (.int .u8))] [((.slc (.int .u8)), (.own .ro)), (.bool, .ro)]) = f110_k x.1 (fun r => some (r, [])) := by kernel_rfl
theorem f110_n {R : Type} (a0 : List Int) (k : (List Int × Bool × Unit) × (Unit) → Option R) : f110_k a0 k = (f110 a0).bind k := by
  simp only [f110, f110_k, cond_bind, ite_bind, bind_bind, some_bind, none_bind, elim_bind]
theorem f110_ok : SmOk Try.prog 110 f110_sm :=
  sum_of (c := f110_fx) (fn := Try.f110) (code := f110_code) (sm := f110_sm) mixed (env_ok env_envB) (TabsOk.all ⟨f141_c, trivial⟩) Try.func110 (by kernel_rfl)
   ((LoopsOk.of (l := []) (by kernel_rfl) trivial))
   (no_tails (by kernel_rfl))
   (fun ks x hl => by
    have hk : ks = [] := List.length_eq_zero_iff.1 hl
    subst hk
    exact (f110_m x).trans (f110_n _ _))
theorem f110_c : CalOk Try.prog 110 f110_sm := .inl ⟨f110_ok, ⟨Try.f110, Try.func110, by kernel_rfl, by kernel_rfl⟩⟩
noncomputable def f53_code : Code := (Try.f53.body).getD .skip
noncomputable def f53_l8_sk : SkS := ⟨75, [(8, .ref 143 []), (0, .con .bool), (0, .ptr 160 []), (14, .con (.slc (.pair .bool (.pair (.slc (.int .u8)) .unit)))), (0, .con (.int .i64)), (0, .con (.int .i64))], [(143, ⟨none, (.slc (.pair (.int .i64) (.pair (.int .i64) (.pair (.slc (.int .u8)) (.pair .bool .unit))))), (.own .ro), none⟩), (160, ⟨some 76, (.pair (.int .i64) (.pair (.int .i64) (.pair (.slc (.int .u8)) (.pair .bool .unit)))), .ro, none⟩)]⟩
noncomputable def f53_l8_o0 : SkS := ⟨94, [(8, .ref 143 [])], [(143, ⟨none, (.slc (.pair (.int .i64) (.pair (.int .i64) (.pair (.slc (.int .u8)) (.pair .bool .unit))))), (.own .ro), none⟩)]⟩
noncomputable def f53_l8_outs : List Way := [⟨(.exit 0), [], f53_l8_o0⟩]
abbrev f53_l8_C := (List (Bool × (List Int × Unit)) × Int × (Option Nat))
abbrev f53_l8_X := (Bool × Int × List (Int × (Int × (List Int × (Bool × Unit)))) × (Int × (Int × (List Int × (Bool × Unit)))))
abbrev f53_l8_Y := (List (Int × (Int × (List Int × (Bool × Unit)))))
noncomputable def f53_l8_con (t : f53_l8_sk.T) : f53_l8_C := (t.1.2.1, t.1.2.2.1, t.2.2.1.2)
noncomputable def f53_l8_get (t : f53_l8_sk.T) : f53_l8_X := (t.1.1, t.1.2.2.2.1, t.2.1.1, t.2.2.1.1)
noncomputable def f53_l8_put (c : f53_l8_C) (x : f53_l8_X) : f53_l8_sk.T := ((x.1, (c.1, (c.2.1, (x.2.1, ())))), ((x.2.2.1, ()), ((x.2.2.2, c.2.2), ())))
theorem f53_l8_pg (t : f53_l8_sk.T) : f53_l8_put (f53_l8_con t) (f53_l8_get t) = t := by kernel_rfl
noncomputable def f53_l8_w0 (c : f53_l8_C) (y : List (Int × (Int × (List Int × (Bool × Unit))))) : f53_l8_o0.T := ((), ((y, ()), ()))
noncomputable def f53_l8_out (c : f53_l8_C) (y : f53_l8_Y) : OutV f53_l8_outs := (fun y => (.inl (f53_l8_w0 c y))) y
noncomputable def f53_l8_k {R : Type} (a0 : Bool) (a1 : List (Bool × (List Int × Unit))) (a2 : Int) (a3 : Int) (a4 : List (Int × (Int × (List Int × (Bool × Unit))))) (a5 : (Int × (Int × (List Int × (Bool × Unit))))) (kin : f53_l8_X → Option R) (k0 : List (Int × (Int × (List Int × (Bool × Unit)))) → Option R) : Option R :=
 (cond (decide (a3 < a2))
 (if (0 : Int) ≤ a3 ∧ a3 < ((List.length a1 : Nat) : Int) then (cond (!(List.getD a1 (Int.toNat a3) (false, (([] : List Int), ()))).1)
  (let v1 : Int := (IntKind.i64.wrap (a3 + (1 : Int)))
   (kin (false, v1, a4, a5)))
  (cond (((List.length (List.getD a1 (Int.toNat a3) (false, (([] : List Int), ()))).2.1 : Nat) : Int) == (0 : Int))
   (let v2 : Int := (IntKind.i64.wrap (a3 + (1 : Int)))
    (kin (false, v2, a4, a5)))
   (if (0 : Int) ≤ (0 : Int) ∧ (0 : Int) < ((List.length (List.getD a1 (Int.toNat a3) (false, (([] : List Int), ()))).2.1 : Nat) : Int) then (cond ((List.getD (List.getD a1 (Int.toNat a3) (false, (([] : List Int), ()))).2.1 0 (0 : Int)) == (254 : Int))
    (cond (decide (((List.length (List.getD a1 (Int.toNat a3) (false, (([] : List Int), ()))).2.1 : Nat) : Int) ≥ (5 : Int)))
     (if (0 : Int) ≤ (0 : Int) ∧ (0 : Int) ≤ (5 : Int) ∧ (5 : Int) ≤ ((List.length (List.getD a1 (Int.toNat a3) (false, (([] : List Int), ()))).2.1 : Nat) : Int) then ((f110 (List.take 5 (List.drop 0 (List.getD a1 (Int.toNat a3) (false, (([] : List Int), ()))).2.1))).bind fun r3 =>
      (if (0 : Int) ≤ (1 : Int) ∧ (1 : Int) < ((List.length (List.getD a1 (Int.toNat a3) (false, (([] : List Int), ()))).2.1 : Nat) : Int) then (let v4 : Int := (IntKind.i64.wrap (List.getD (List.getD a1 (Int.toNat a3) (false, (([] : List Int), ()))).2.1 1 (0 : Int)))
      (if (0 : Int) ≤ (2 : Int) ∧ (2 : Int) < ((List.length (List.getD a1 (Int.toNat a3) (false, (([] : List Int), ()))).2.1 : Nat) : Int) then (let v5 : Int := (IntKind.i64.wrap (List.getD (List.getD a1 (Int.toNat a3) (false, (([] : List Int), ()))).2.1 2 (0 : Int)))
      (let v6 : Int := (IntKind.i64.wrap (a3 + (1 : Int)))
      (kin (r3.1.2.1, v6, a4, (v4, (v5, ([], (false, ())))))))) else none)) else none)) else none)
     (if (0 : Int) ≤ (0 : Int) ∧ (0 : Int) < ((List.length (List.getD a1 (Int.toNat a3) (false, (([] : List Int), ()))).2.1 : Nat) : Int) then (cond ((List.getD (List.getD a1 (Int.toNat a3) (false, (([] : List Int), ()))).2.1 0 (0 : Int)) == (251 : Int))
      (cond a0
       (cond (decide (((List.length (List.getD a1 (Int.toNat a3) (false, (([] : List Int), ()))).2.1 : Nat) : Int) ≥ (131 : Int)))
        (if (0 : Int) ≤ (0 : Int) ∧ (0 : Int) ≤ (131 : Int) ∧ (131 : Int) ≤ ((List.length (List.getD a1 (Int.toNat a3) (false, (([] : List Int), ()))).2.1 : Nat) : Int) then ((f110 (List.take 131 (List.drop 0 (List.getD a1 (Int.toNat a3) (false, (([] : List Int), ()))).2.1))).bind fun r7 =>
         (if (0 : Int) ≤ (1 : Int) ∧ (1 : Int) ≤ (129 : Int) ∧ (129 : Int) ≤ ((List.length (List.getD a1 (Int.toNat a3) (false, (([] : List Int), ()))).2.1 : Nat) : Int) then (if (0 + List.length (List.take 128 (List.drop 1 (List.getD a1 (Int.toNat a3) (false, (([] : List Int), ()))).2.1))) * 1 ≤ most ∧ 0 < 1 ∧ 0 < 1 then (let r8 : List Int := ([] ++ (List.take 128 (List.drop 1 (List.getD a1 (Int.toNat a3) (false, (([] : List Int), ()))).2.1)))
         (if (List.length a4 + 1) * 48 ≤ most ∧ 0 < 48 ∧ 0 < 4 then (let r9 : List (Int × (Int × (List Int × (Bool × Unit)))) := (a4 ++ [(a5.1, (a5.2.1, (r8, ((!r7.1.2.1), a5.2.2.2.2))))])
         (let v10 : Int := (IntKind.i64.wrap (a3 + (1 : Int)))
         (kin (false, v10, r9, (a5.1, (a5.2.1, (r8, ((!r7.1.2.1), a5.2.2.2.2)))))))) else none)) else none) else none)) else none)
        (let v11 : Int := (IntKind.i64.wrap (a3 + (1 : Int)))
         (kin (false, v11, a4, a5))))
       (let v12 : Int := (IntKind.i64.wrap (a3 + (1 : Int)))
        (kin (false, v12, a4, a5))))
      (let v13 : Int := (IntKind.i64.wrap (a3 + (1 : Int)))
       (kin (false, v13, a4, a5)))) else none))
    (if (0 : Int) ≤ (0 : Int) ∧ (0 : Int) < ((List.length (List.getD a1 (Int.toNat a3) (false, (([] : List Int), ()))).2.1 : Nat) : Int) then (cond ((List.getD (List.getD a1 (Int.toNat a3) (false, (([] : List Int), ()))).2.1 0 (0 : Int)) == (251 : Int))
     (cond a0
      (cond (decide (((List.length (List.getD a1 (Int.toNat a3) (false, (([] : List Int), ()))).2.1 : Nat) : Int) ≥ (131 : Int)))
       (if (0 : Int) ≤ (0 : Int) ∧ (0 : Int) ≤ (131 : Int) ∧ (131 : Int) ≤ ((List.length (List.getD a1 (Int.toNat a3) (false, (([] : List Int), ()))).2.1 : Nat) : Int) then ((f110 (List.take 131 (List.drop 0 (List.getD a1 (Int.toNat a3) (false, (([] : List Int), ()))).2.1))).bind fun r14 =>
        (if (0 : Int) ≤ (1 : Int) ∧ (1 : Int) ≤ (129 : Int) ∧ (129 : Int) ≤ ((List.length (List.getD a1 (Int.toNat a3) (false, (([] : List Int), ()))).2.1 : Nat) : Int) then (if (0 + List.length (List.take 128 (List.drop 1 (List.getD a1 (Int.toNat a3) (false, (([] : List Int), ()))).2.1))) * 1 ≤ most ∧ 0 < 1 ∧ 0 < 1 then (let r15 : List Int := ([] ++ (List.take 128 (List.drop 1 (List.getD a1 (Int.toNat a3) (false, (([] : List Int), ()))).2.1)))
        (if (List.length a4 + 1) * 48 ≤ most ∧ 0 < 48 ∧ 0 < 4 then (let r16 : List (Int × (Int × (List Int × (Bool × Unit)))) := (a4 ++ [(a5.1, (a5.2.1, (r15, ((!r14.1.2.1), a5.2.2.2.2))))])
        (let v17 : Int := (IntKind.i64.wrap (a3 + (1 : Int)))
        (kin (false, v17, r16, (a5.1, (a5.2.1, (r15, ((!r14.1.2.1), a5.2.2.2.2)))))))) else none)) else none) else none)) else none)
       (let v18 : Int := (IntKind.i64.wrap (a3 + (1 : Int)))
        (kin (false, v18, a4, a5))))
      (let v19 : Int := (IntKind.i64.wrap (a3 + (1 : Int)))
       (kin (false, v19, a4, a5))))
     (let v20 : Int := (IntKind.i64.wrap (a3 + (1 : Int)))
      (kin (false, v20, a4, a5)))) else none)) else none))) else none)
 (k0 a4))
noncomputable def f53_l8_g (a1 : List (Bool × (List Int × Unit))) (a2 : Int) (x : f53_l8_X) : Option (f53_l8_X ⊕ f53_l8_Y) := f53_l8_k x.1 a1 a2 x.2.1 x.2.2.1 x.2.2.2 (fun x => some (.inl x)) (fun y => some (.inr y))
noncomputable def f53_l8 (a1 : List (Bool × (List Int × Unit))) (a2 : Int) (x : f53_l8_X) : Option f53_l8_Y := loopO (f53_l8_g a1 a2) x
noncomputable def f53_l8_nd : Node := { nils := [(8, 143, (.pair (.int .i64) (.pair (.int .i64) (.pair (.slc (.int .u8)) (.pair .bool .unit)))), .ro)], sk := f53_l8_sk, outs := f53_l8_outs, Y := f53_l8_Y, L := fun t => f53_l8 ((f53_l8_con t).1) ((f53_l8_con t).2.1) (f53_l8_get t), out := fun t y => f53_l8_out (f53_l8_con t) y, disp := fun t y K => (fun y => K (.exit 0) (f53_l8_o0.fill (f53_l8_w0 (f53_l8_con t) y))) y }
noncomputable def f53_fx : Fx := { E := env, T := [(30, f30_sm), (110, f110_sm)], H := [(10, .ro)], O := [], nodes := [((true, 8), f53_l8_nd)] }
noncomputable def f53_l8_b : Code := (loops f53_code).getD 0 .skip
theorem f53_l8_r (c : f53_l8_C) (x : f53_l8_X) : roundS f53_fx f53_l8_b f53_l8_nd (f53_l8_put c x) = f53_l8_k x.1 c.1 c.2.1 x.2.1 x.2.2.1 x.2.2.2 (fun x => some (.inl (f53_l8_put c x))) (fun y => some (.inr (.inl (f53_l8_w0 c y)))) := by kernel_rfl
theorem f53_l8_n {R : Type} (a0 : Bool) (a1 : List (Bool × (List Int × Unit))) (a2 : Int) (a3 : Int) (a4 : List (Int × (Int × (List Int × (Bool × Unit))))) (a5 : (Int × (Int × (List Int × (Bool × Unit))))) (kin : f53_l8_X → Option R) (k0 : List (Int × (Int × (List Int × (Bool × Unit)))) → Option R) : f53_l8_k a0 a1 a2 a3 a4 a5 kin k0 = (f53_l8_g a1 a2 (a0, a3, a4, a5)).bind (Sum.elim kin k0) := by
  simp only [f53_l8_g, f53_l8_k, cond_bind, ite_bind, bind_bind, some_bind, none_bind, elim_bind, Sum.elim_inl, Sum.elim_inr]
theorem f53_l8_ok : LoopOk f53_fx f53_l8_b f53_l8_nd := loop_ok f53_l8_con f53_l8_get f53_l8_put f53_l8_pg (fun c => f53_l8_g c.1 c.2.1) f53_l8_out (fun t y => rfl) (fun t y K => rfl) (fun c x => by
  refine (f53_l8_r c x).trans ((f53_l8_n _ _ _ _ _ _ _ _).trans ?_)
  first
  | rfl
  | congr 1
    funext s
    rcases s with s | s <;> rfl) (fun t => rfl)
noncomputable def f53_k {R : Type} (a0 : List Int) (a1 : Int) (k : (List (Int × (Int × (List Int × (Bool × Unit)))) × Int × Unit) × (Unit) → Option R) : Option R :=
 ((f30 a0 a1).bind fun r0 =>
 (cond (r0.1.2.1 != (0 : Int))
 (k (([], (r0.1.2.1, ())), ()))
 ((f53_l8 r0.1.1 ((List.length r0.1.1 : Nat) : Int) (false, (0 : Int), [], ((0 : Int), ((0 : Int), (([] : List Int), (false, ())))))).bind fun y21 =>
  (cond (decide (((List.length y21 : Nat) : Int) > (12 : Int)))
  (k (([], ((2 : Int), ())), ()))
  (k ((y21, ((0 : Int), ())), ()))))))
noncomputable def f53 (a0 : List Int) (a1 : Int) : Option ((List (Int × (Int × (List Int × (Bool × Unit)))) × Int × Unit) × (Unit)) := f53_k a0 a1 some
noncomputable def f53_sm : Sm := ⟨[.ro (.slc (.int .i64)), .ro (.int .i64)], [((.slc (.pair (.int .i64) (.pair (.int .i64) (.pair (.slc (.int .u8)) (.pair .bool .unit))))), .ro), ((.int .i64), .ro)], fun x => f53 x.1 x.2.1⟩
theorem f53_m (x : ArgT [.ro (.slc (.int .i64)), .ro (.int .i64)]) : codeS f53_fx f53_code (start [.ro (.slc (.int .i64)), .ro (.int .i64)] [] x 103) (finK env [.tmp 4, .tmp 5] [.ro (.slc (.int .i64)), .ro (.int .i64)] [((.slc (.pair (.int .i64) (.pair (.int .i64) (.pair (.slc (.int .u8)) (.pair .bool .unit))))), .ro), ((.int .i64), .ro)]) = f53_k x.1 x.2.1 (fun r => some (r, [])) := by kernel_rfl
theorem f53_n {R : Type} (a0 : List Int) (a1 : Int) (k : (List (Int × (Int × (List Int × (Bool × Unit)))) × Int × Unit) × (Unit) → Option R) : f53_k a0 a1 k = (f53 a0 a1).bind k := by
  simp only [f53, f53_k, cond_bind, ite_bind, bind_bind, some_bind, none_bind, elim_bind]
theorem f53_ok : SmOk Try.prog 53 f53_sm :=
  sum_of (c := f53_fx) (fn := Try.f53) (code := f53_code) (sm := f53_sm) mixed (env_ok env_envB) (TabsOk.all ⟨f30_c, f110_c, trivial⟩) Try.func53 (by kernel_rfl)
   ((LoopsOk.of (l := [f53_l8_b]) (by kernel_rfl) ⟨node_is (by kernel_rfl) f53_l8_ok, trivial⟩))
   (no_tails (by kernel_rfl))
   (fun ks x hl => by
    have hk : ks = [] := List.length_eq_zero_iff.1 hl
    subst hk
    exact (f53_m x).trans (f53_n _ _ _))
theorem f53_c : CalOk Try.prog 53 f53_sm := .inl ⟨f53_ok, ⟨Try.f53, Try.func53, by kernel_rfl, by kernel_rfl⟩⟩
noncomputable def f111_code : Code := (Try.f111.body).getD .skip
noncomputable def f111_fx : Fx := { E := env, T := [(109, f109_sm), (24, f24_sm), (76, f76_sm)], H := [], O := [], nodes := [] }
noncomputable def f111_k {R : Type} (a0 : List Int) (k : (List Int × Bool × Unit) × (Unit) → Option R) : Option R :=
 (let v0 : Int := (IntKind.i64.wrap (((List.length a0 : Nat) : Int) - (2 : Int)))
 (cond (decide (v0 < (0 : Int)))
 (k (([], (false, ())), ()))
 (if (0 : Int) ≤ (0 : Int) ∧ (0 : Int) ≤ v0 ∧ v0 ≤ ((List.length a0 : Nat) : Int) then ((f109 (List.take ((Int.toNat v0) - 0) (List.drop 0 a0))).bind fun r1 =>
  ((f24 r1.1.1 a0).bind fun r2 =>
  (cond (!r2.1.1)
  (k (([], (false, ())), ()))
  (if (0 : Int) ≤ (0 : Int) ∧ (0 : Int) ≤ v0 ∧ v0 ≤ ((List.length a0 : Nat) : Int) then ((f76 (List.take ((Int.toNat v0) - 0) (List.drop 0 a0))).bind fun r3 =>
   (k ((r3.1.1, (true, ())), ()))) else none)))) else none)))
noncomputable def f111 (a0 : List Int) : Option ((List Int × Bool × Unit) × (Unit)) := f111_k a0 some
noncomputable def f111_sm : Sm := ⟨[.ro (.slc (.int .u8))], [((.slc (.int .u8)), (.own .ro)), (.bool, .ro)], fun x => f111 x.1⟩
theorem f111_m (x : ArgT [.ro (.slc (.int .u8))]) : codeS f111_fx f111_code (start [.ro (.slc (.int .u8))] [] x 23) (finK env [.tmp 2, .tmp 3] [.ro (.slc (.int .u8))] [((.slc (.int .u8)), (.own .ro)), (.bool, .ro)]) = f111_k x.1 (fun r => some (r, [])) := by kernel_rfl
theorem f111_n {R : Type} (a0 : List Int) (k : (List Int × Bool × Unit) × (Unit) → Option R) : f111_k a0 k = (f111 a0).bind k := by
  simp only [f111, f111_k, cond_bind, ite_bind, bind_bind, some_bind, none_bind, elim_bind]
theorem f111_ok : SmOk Try.prog 111 f111_sm :=
  sum_of (c := f111_fx) (fn := Try.f111) (code := f111_code) (sm := f111_sm) mixed (env_ok env_envB) (TabsOk.all ⟨f109_c, f24_c, f76_c, trivial⟩) Try.func111 (by kernel_rfl)
   ((LoopsOk.of (l := []) (by kernel_rfl) trivial))
   (no_tails (by kernel_rfl))
   (fun ks x hl => by
    have hk : ks = [] := List.length_eq_zero_iff.1 hl
    subst hk
    exact (f111_m x).trans (f111_n _ _))
theorem f111_c : CalOk Try.prog 111 f111_sm := .inl ⟨f111_ok, ⟨Try.f111, Try.func111, by kernel_rfl, by kernel_rfl⟩⟩
noncomputable def f54_code : Code := (Try.f54.body).getD .skip
noncomputable def f54_l6_sk : SkS := ⟨104, [(6, .con (.slc (.pair .bool (.pair (.slc (.int .u8)) .unit)))), (1, .ref 143 []), (0, .con (.int .i64))], [(143, ⟨none, (.slc (.pair (.int .i64) (.pair (.int .i64) (.pair (.slc (.int .u8)) (.pair .bool .unit))))), (.own .ro), none⟩)]⟩
noncomputable def f54_l6_o0 : SkS := ⟨105, [(8, .ref 143 [])], [(143, ⟨none, (.slc (.pair (.int .i64) (.pair (.int .i64) (.pair (.slc (.int .u8)) (.pair .bool .unit))))), (.own .ro), none⟩)]⟩
noncomputable def f54_l6_outs : List Way := [⟨(.exit 0), [], f54_l6_o0⟩]
abbrev f54_l6_C := List (Bool × (List Int × Unit))
abbrev f54_l6_X := (Int × List (Int × (Int × (List Int × (Bool × Unit)))))
abbrev f54_l6_Y := (List (Int × (Int × (List Int × (Bool × Unit)))))
noncomputable def f54_l6_con (t : f54_l6_sk.T) : f54_l6_C := t.1.1
noncomputable def f54_l6_get (t : f54_l6_sk.T) : f54_l6_X := (t.1.2.1, t.2.1.1)
noncomputable def f54_l6_put (c : f54_l6_C) (x : f54_l6_X) : f54_l6_sk.T := ((c, (x.1, ())), ((x.2, ()), ()))
theorem f54_l6_pg (t : f54_l6_sk.T) : f54_l6_put (f54_l6_con t) (f54_l6_get t) = t := by kernel_rfl
noncomputable def f54_l6_w0 (c : f54_l6_C) (y : List (Int × (Int × (List Int × (Bool × Unit))))) : f54_l6_o0.T := ((), ((y, ()), ()))
noncomputable def f54_l6_out (c : f54_l6_C) (y : f54_l6_Y) : OutV f54_l6_outs := (fun y => (.inl (f54_l6_w0 c y))) y
noncomputable def f54_l6_k {R : Type} (a0 : List (Bool × (List Int × Unit))) (a1 : Int) (a2 : List (Int × (Int × (List Int × (Bool × Unit))))) (kin : f54_l6_X → Option R) (k0 : List (Int × (Int × (List Int × (Bool × Unit)))) → Option R) : Option R :=
 (cond (decide (a1 < ((List.length a0 : Nat) : Int)))
 (let v1 : Int := (IntKind.i64.wrap (a1 - (1 : Int)))
  (if (0 : Int) ≤ v1 ∧ v1 < ((List.length a0 : Nat) : Int) then (if (0 : Int) ≤ a1 ∧ a1 < ((List.length a0 : Nat) : Int) then (cond (!(List.getD a0 (Int.toNat v1) (false, (([] : List Int), ()))).1)
  (let v2 : Int := (IntKind.i64.wrap (a1 + (1 : Int)))
   (kin (v2, a2)))
  (cond (!(List.getD a0 (Int.toNat a1) (false, (([] : List Int), ()))).1)
   (let v3 : Int := (IntKind.i64.wrap (a1 + (1 : Int)))
    (kin (v3, a2)))
   (cond (decide (((List.length (List.getD a0 (Int.toNat v1) (false, (([] : List Int), ()))).2.1 : Nat) : Int) < (5 : Int)))
    (let v4 : Int := (IntKind.i64.wrap (a1 + (1 : Int)))
     (kin (v4, a2)))
    (cond (decide (((List.length (List.getD a0 (Int.toNat a1) (false, (([] : List Int), ()))).2.1 : Nat) : Int) < (131 : Int)))
     (let v5 : Int := (IntKind.i64.wrap (a1 + (1 : Int)))
      (kin (v5, a2)))
     (if (0 : Int) ≤ (0 : Int) ∧ (0 : Int) < ((List.length (List.getD a0 (Int.toNat v1) (false, (([] : List Int), ()))).2.1 : Nat) : Int) then (cond ((List.getD (List.getD a0 (Int.toNat v1) (false, (([] : List Int), ()))).2.1 0 (0 : Int)) != (254 : Int))
      (let v6 : Int := (IntKind.i64.wrap (a1 + (1 : Int)))
       (kin (v6, a2)))
      (if (0 : Int) ≤ (0 : Int) ∧ (0 : Int) < ((List.length (List.getD a0 (Int.toNat a1) (false, (([] : List Int), ()))).2.1 : Nat) : Int) then (cond ((List.getD (List.getD a0 (Int.toNat a1) (false, (([] : List Int), ()))).2.1 0 (0 : Int)) != (251 : Int))
       (let v7 : Int := (IntKind.i64.wrap (a1 + (1 : Int)))
        (kin (v7, a2)))
       (if (0 : Int) ≤ (0 : Int) ∧ (0 : Int) ≤ (5 : Int) ∧ (5 : Int) ≤ ((List.length (List.getD a0 (Int.toNat v1) (false, (([] : List Int), ()))).2.1 : Nat) : Int) then ((f111 (List.take 5 (List.drop 0 (List.getD a0 (Int.toNat v1) (false, (([] : List Int), ()))).2.1))).bind fun r8 =>
        (cond (!r8.1.2.1)
        (let v9 : Int := (IntKind.i64.wrap (a1 + (1 : Int)))
         (kin (v9, a2)))
        (if (0 : Int) ≤ (0 : Int) ∧ (0 : Int) ≤ (131 : Int) ∧ (131 : Int) ≤ ((List.length (List.getD a0 (Int.toNat a1) (false, (([] : List Int), ()))).2.1 : Nat) : Int) then ((f111 (List.take 131 (List.drop 0 (List.getD a0 (Int.toNat a1) (false, (([] : List Int), ()))).2.1))).bind fun r10 =>
         (if (0 : Int) ≤ (1 : Int) ∧ (1 : Int) < ((List.length (List.getD a0 (Int.toNat v1) (false, (([] : List Int), ()))).2.1 : Nat) : Int) then (let v11 : Int := (IntKind.i64.wrap (List.getD (List.getD a0 (Int.toNat v1) (false, (([] : List Int), ()))).2.1 1 (0 : Int)))
         (if (0 : Int) ≤ (2 : Int) ∧ (2 : Int) < ((List.length (List.getD a0 (Int.toNat v1) (false, (([] : List Int), ()))).2.1 : Nat) : Int) then (let v12 : Int := (IntKind.i64.wrap (List.getD (List.getD a0 (Int.toNat v1) (false, (([] : List Int), ()))).2.1 2 (0 : Int)))
         (if (0 : Int) ≤ (1 : Int) ∧ (1 : Int) ≤ (129 : Int) ∧ (129 : Int) ≤ ((List.length (List.getD a0 (Int.toNat a1) (false, (([] : List Int), ()))).2.1 : Nat) : Int) then ((f76 (List.take 128 (List.drop 1 (List.getD a0 (Int.toNat a1) (false, (([] : List Int), ()))).2.1))).bind fun r13 =>
         (if (List.length a2 + 1) * 48 ≤ most ∧ 0 < 48 ∧ 0 < 4 then (let r14 : List (Int × (Int × (List Int × (Bool × Unit)))) := (a2 ++ [(v11, (v12, (r13.1.1, ((!r10.1.2.1), ()))))])
         (let v15 : Int := (IntKind.i64.wrap (a1 + (1 : Int)))
         (kin (v15, r14)))) else none)) else none)) else none)) else none)) else none))) else none)) else none)) else none))))) else none) else none))
 (k0 a2))
noncomputable def f54_l6_g (a0 : List (Bool × (List Int × Unit))) (x : f54_l6_X) : Option (f54_l6_X ⊕ f54_l6_Y) := f54_l6_k a0 x.1 x.2 (fun x => some (.inl x)) (fun y => some (.inr y))
noncomputable def f54_l6 (a0 : List (Bool × (List Int × Unit))) (x : f54_l6_X) : Option f54_l6_Y := loopO (f54_l6_g a0) x
noncomputable def f54_l6_nd : Node := { nils := [(8, 143, (.pair (.int .i64) (.pair (.int .i64) (.pair (.slc (.int .u8)) (.pair .bool .unit)))), .ro)], sk := f54_l6_sk, outs := f54_l6_outs, Y := f54_l6_Y, L := fun t => f54_l6 ((f54_l6_con t)) (f54_l6_get t), out := fun t y => f54_l6_out (f54_l6_con t) y, disp := fun t y K => (fun y => K (.exit 0) (f54_l6_o0.fill (f54_l6_w0 (f54_l6_con t) y))) y }
noncomputable def f54_fx : Fx := { E := env, T := [(32, f32_sm), (111, f111_sm), (76, f76_sm)], H := [], O := [], nodes := [((true, 6), f54_l6_nd)] }
noncomputable def f54_l6_b : Code := (loops f54_code).getD 0 .skip
theorem f54_l6_r (c : f54_l6_C) (x : f54_l6_X) : roundS f54_fx f54_l6_b f54_l6_nd (f54_l6_put c x) = f54_l6_k c x.1 x.2 (fun x => some (.inl (f54_l6_put c x))) (fun y => some (.inr (.inl (f54_l6_w0 c y)))) := by kernel_rfl
theorem f54_l6_n {R : Type} (a0 : List (Bool × (List Int × Unit))) (a1 : Int) (a2 : List (Int × (Int × (List Int × (Bool × Unit))))) (kin : f54_l6_X → Option R) (k0 : List (Int × (Int × (List Int × (Bool × Unit)))) → Option R) : f54_l6_k a0 a1 a2 kin k0 = (f54_l6_g a0 (a1, a2)).bind (Sum.elim kin k0) := by
  simp only [f54_l6_g, f54_l6_k, cond_bind, ite_bind, bind_bind, some_bind, none_bind, elim_bind, Sum.elim_inl, Sum.elim_inr]
theorem f54_l6_ok : LoopOk f54_fx f54_l6_b f54_l6_nd := loop_ok f54_l6_con f54_l6_get f54_l6_put f54_l6_pg (fun c => f54_l6_g c) f54_l6_out (fun t y => rfl) (fun t y K => rfl) (fun c x => by
  refine (f54_l6_r c x).trans ((f54_l6_n _ _ _ _ _).trans ?_)
  first
  | rfl
  | congr 1
    funext s
    rcases s with s | s <;> rfl) (fun t => rfl)
noncomputable def f54_k {R : Type} (a0 : List Int) (a1 : Int) (k : (List (Int × (Int × (List Int × (Bool × Unit)))) × Int × Unit) × (Unit) → Option R) : Option R :=
 ((f32 a0 a1).bind fun r0 =>
 (cond (r0.1.2.1 != (0 : Int))
 (k (([], (r0.1.2.1, ())), ()))
 ((f54_l6 r0.1.1 ((1 : Int), [])).bind fun y16 =>
  (cond (decide (((List.length y16 : Nat) : Int) > (12 : Int)))
  (k (([], ((2 : Int), ())), ()))
  (k ((y16, ((0 : Int), ())), ()))))))
noncomputable def f54 (a0 : List Int) (a1 : Int) : Option ((List (Int × (Int × (List Int × (Bool × Unit)))) × Int × Unit) × (Unit)) := f54_k a0 a1 some
noncomputable def f54_sm : Sm := ⟨[.ro (.slc (.int .i64)), .ro (.int .i64)], [((.slc (.pair (.int .i64) (.pair (.int .i64) (.pair (.slc (.int .u8)) (.pair .bool .unit))))), .ro), ((.int .i64), .ro)], fun x => f54 x.1 x.2.1⟩
theorem f54_m (x : ArgT [.ro (.slc (.int .i64)), .ro (.int .i64)]) : codeS f54_fx f54_code (start [.ro (.slc (.int .i64)), .ro (.int .i64)] [] x 114) (finK env [.tmp 4, .tmp 5] [.ro (.slc (.int .i64)), .ro (.int .i64)] [((.slc (.pair (.int .i64) (.pair (.int .i64) (.pair (.slc (.int .u8)) (.pair .bool .unit))))), .ro), ((.int .i64), .ro)]) = f54_k x.1 x.2.1 (fun r => some (r, [])) := by kernel_rfl
theorem f54_n {R : Type} (a0 : List Int) (a1 : Int) (k : (List (Int × (Int × (List Int × (Bool × Unit)))) × Int × Unit) × (Unit) → Option R) : f54_k a0 a1 k = (f54 a0 a1).bind k := by
  simp only [f54, f54_k, cond_bind, ite_bind, bind_bind, some_bind, none_bind, elim_bind]
theorem f54_ok : SmOk Try.prog 54 f54_sm :=
  sum_of (c := f54_fx) (fn := Try.f54) (code := f54_code) (sm := f54_sm) mixed (env_ok env_envB) (TabsOk.all ⟨f32_c, f111_c, f76_c, trivial⟩) Try.func54 (by kernel_rfl)
   ((LoopsOk.of (l := [f54_l6_b]) (by kernel_rfl) ⟨node_is (by kernel_rfl) f54_l6_ok, trivial⟩))
   (no_tails (by kernel_rfl))
   (fun ks x hl => by
    have hk : ks = [] := List.length_eq_zero_iff.1 hl
    subst hk
    exact (f54_m x).trans (f54_n _ _ _))
theorem f54_c : CalOk Try.prog 54 f54_sm := .inl ⟨f54_ok, ⟨Try.f54, Try.func54, by kernel_rfl, by kernel_rfl⟩⟩
end Go.Proofs.Ytlgbhaigpecdoaa.V
