/- Printed. -/
import Derived.Test.YtlgbhaigpecdoaaVFnSectA
set_option linter.unusedVariables false
set_option linter.unusedSimpArgs false
set_option maxRecDepth 100000
namespace Go.Proofs.Ytlgbhaigpecdoaa.V
open Go
/-! bakelite/image.New -/
noncomputable def f21_code : Code := (Try.f21.body).getD .skip
noncomputable def f21_l5_sk : SkS := ⟨9, [(4, .ptr 64 []), (1, .ptr 96 []), (20, .con (.int .i64)), (0, .con (.int .i64))], [(64, ⟨some 24, (.pair (.int .i64) (.pair (.int .i64) (.pair (.slc (.slc (.int .u8))) .unit))), (.pair .ro (.pair .ro (.pair (.own .ro) .ro)))⟩), (96, ⟨some 24, (.pair (.int .i64) (.pair (.int .i64) (.pair (.slc (.slc (.int .u8))) .unit))), (.pair .ro (.pair .ro (.pair (.own .ro) .ro)))⟩)]⟩
noncomputable def f21_l5_o0 : SkS := ⟨31, [(4, .ptr 64 []), (1, .ptr 96 [])], [(64, ⟨some 24, (.pair (.int .i64) (.pair (.int .i64) (.pair (.slc (.slc (.int .u8))) .unit))), (.pair .ro (.pair .ro (.pair (.own .ro) .ro)))⟩), (96, ⟨some 24, (.pair (.int .i64) (.pair (.int .i64) (.pair (.slc (.slc (.int .u8))) .unit))), (.pair .ro (.pair .ro (.pair (.own .ro) .ro)))⟩)]⟩
noncomputable def f21_l5_outs : List Way := [⟨(.exit 0), [], f21_l5_o0⟩]
abbrev f21_l5_C := (Int × (Int × (Int × (List (List Int) × Unit))) × (Option Nat) × (Option Nat))
abbrev f21_l5_X := (Int × (Int × (Int × (List (List Int) × Unit))))
abbrev f21_l5_Y := ((Int × (Int × (List (List Int) × Unit))))
noncomputable def f21_l5_con (t : f21_l5_sk.T) : f21_l5_C := (t.1.1, t.2.1.1, t.2.1.2, t.2.2.1.2)
noncomputable def f21_l5_get (t : f21_l5_sk.T) : f21_l5_X := (t.1.2.1, t.2.2.1.1)
noncomputable def f21_l5_put (c : f21_l5_C) (x : f21_l5_X) : f21_l5_sk.T := ((c.1, (x.1, ())), ((c.2.1, c.2.2.1), ((x.2, c.2.2.2), ())))
theorem f21_l5_pg (t : f21_l5_sk.T) : f21_l5_put (f21_l5_con t) (f21_l5_get t) = t := by kernel_rfl
noncomputable def f21_l5_w0 (c : f21_l5_C) (y : (Int × (Int × (List (List Int) × Unit)))) : f21_l5_o0.T := ((), ((c.2.1, c.2.2.1), ((y, c.2.2.2), ())))
noncomputable def f21_l5_out (c : f21_l5_C) (y : f21_l5_Y) : OutV f21_l5_outs := (fun y => (.inl (f21_l5_w0 c y))) y
noncomputable def f21_l5_k {R : Type} (a0 : Int) (a1 : Int) (a2 : (Int × (Int × (List (List Int) × Unit)))) (a3 : (Int × (Int × (List (List Int) × Unit)))) (kin : f21_l5_X → Option R) (k0 : (Int × (Int × (List (List Int) × Unit))) → Option R) : Option R :=
 (cond (decide (a1 < a0))
 (if (List.length a3.2.2.1 + 1) * 24 ≤ most ∧ 0 < 24 ∧ 0 < 1 then (let r1 : List (List Int) := (a3.2.2.1 ++ [(List.replicate 128 (0 : Int))])
  (let v2 : Int := (IntKind.i64.wrap (a1 + (1 : Int)))
  (kin (v2, (a3.1, (a3.2.1, (r1, a3.2.2.2))))))) else none)
 (k0 a3))
noncomputable def f21_l5_g (a0 : Int) (a2 : (Int × (Int × (List (List Int) × Unit)))) (x : f21_l5_X) : Option (f21_l5_X ⊕ f21_l5_Y) := f21_l5_k a0 x.1 a2 x.2 (fun x => some (.inl x)) (fun y => some (.inr y))
noncomputable def f21_l5 (a0 : Int) (a2 : (Int × (Int × (List (List Int) × Unit)))) (x : f21_l5_X) : Option f21_l5_Y := loopO (f21_l5_g a0 a2) x
noncomputable def f21_l5_nd : Node := { nils := [], sk := f21_l5_sk, outs := f21_l5_outs, Y := f21_l5_Y, L := fun t => f21_l5 ((f21_l5_con t).1) ((f21_l5_con t).2.1) (f21_l5_get t), out := fun t y => f21_l5_out (f21_l5_con t) y, disp := fun t y K => (fun y => K (.exit 0) (f21_l5_o0.fill (f21_l5_w0 (f21_l5_con t) y))) y }
noncomputable def f21_fx : Fx := { E := env, T := [], H := [], O := [], nodes := [((true, 5), f21_l5_nd)] }
noncomputable def f21_l5_b : Code := (loops f21_code).getD 0 .skip
theorem f21_l5_r (c : f21_l5_C) (x : f21_l5_X) : roundS f21_fx f21_l5_b f21_l5_nd (f21_l5_put c x) = f21_l5_k c.1 x.1 c.2.1 x.2 (fun x => some (.inl (f21_l5_put c x))) (fun y => some (.inr (.inl (f21_l5_w0 c y)))) := by kernel_rfl
theorem f21_l5_n {R : Type} (a0 : Int) (a1 : Int) (a2 : (Int × (Int × (List (List Int) × Unit)))) (a3 : (Int × (Int × (List (List Int) × Unit)))) (kin : f21_l5_X → Option R) (k0 : (Int × (Int × (List (List Int) × Unit))) → Option R) : f21_l5_k a0 a1 a2 a3 kin k0 = (f21_l5_g a0 a2 (a1, a3)).bind (Sum.elim kin k0) := by
  simp only [f21_l5_g, f21_l5_k, cond_bind, ite_bind, bind_bind, some_bind, none_bind, elim_bind, Sum.elim_inl, Sum.elim_inr]
theorem f21_l5_ok : LoopOk f21_fx f21_l5_b f21_l5_nd := loop_ok f21_l5_con f21_l5_get f21_l5_put f21_l5_pg (fun c => f21_l5_g c.1 c.2.1) f21_l5_out (fun t y => rfl) (fun t y K => rfl) (fun c x => by
  refine (f21_l5_r c x).trans ((f21_l5_n _ _ _ _ _ _).trans ?_)
  first
  | rfl
  | congr 1
    funext s
    rcases s with s | s <;> rfl) (fun t => rfl)
noncomputable def f21_k {R : Type} (a0 : Int) (a1 : Int) (k : ((Int × (Int × (List (List Int) × Unit))) × Int × Unit) × (Unit) → Option R) : Option R :=
 (cond (decide (a0 < (1 : Int)))
 (k ((((0 : Int), ((0 : Int), ([], ()))), ((1 : Int), ())), ()))
 (cond (decide (a0 > (20 : Int)))
  (k ((((0 : Int), ((0 : Int), ([], ()))), ((1 : Int), ())), ()))
  (cond (decide (a1 < (1 : Int)))
   (k ((((0 : Int), ((0 : Int), ([], ()))), ((1 : Int), ())), ()))
   (cond (decide (a1 > (12 : Int)))
    (k ((((0 : Int), ((0 : Int), ([], ()))), ((1 : Int), ())), ()))
    (let v0 : Int := (IntKind.i64.wrap (a0 * a1))
     ((f21_l5 v0 ((0 : Int), ((0 : Int), (([] : List (List Int)), ()))) ((0 : Int), (a0, (a1, ([], ()))))).bind fun y3 =>
     (k ((y3, ((0 : Int), ())), ()))))))))
noncomputable def f21 (a0 : Int) (a1 : Int) : Option (((Int × (Int × (List (List Int) × Unit))) × Int × Unit) × (Unit)) := f21_k a0 a1 some
noncomputable def f21_sm : Sm := ⟨[.ro (.int .i64), .ro (.int .i64)], [((.pair (.int .i64) (.pair (.int .i64) (.pair (.slc (.slc (.int .u8))) .unit))), (.pair .ro (.pair .ro (.pair (.own .ro) .ro)))), ((.int .i64), .ro)], fun x => f21 x.1 x.2.1⟩
theorem f21_m (x : ArgT [.ro (.int .i64), .ro (.int .i64)]) : codeS f21_fx f21_code (start [.ro (.int .i64), .ro (.int .i64)] [] x 38) (finK env [.cell 4 24, .tmp 5] [.ro (.int .i64), .ro (.int .i64)] [((.pair (.int .i64) (.pair (.int .i64) (.pair (.slc (.slc (.int .u8))) .unit))), (.pair .ro (.pair .ro (.pair (.own .ro) .ro)))), ((.int .i64), .ro)]) = f21_k x.1 x.2.1 (fun r => some (r, [])) := by kernel_rfl
theorem f21_n {R : Type} (a0 : Int) (a1 : Int) (k : ((Int × (Int × (List (List Int) × Unit))) × Int × Unit) × (Unit) → Option R) : f21_k a0 a1 k = (f21 a0 a1).bind k := by
  simp only [f21, f21_k, cond_bind, ite_bind, bind_bind, some_bind, none_bind, elim_bind]
theorem f21_f : FnOk Try.prog 21 := ⟨Try.f21, Try.func21, by kernel_rfl, by kernel_rfl⟩
theorem f21_ok : SmOk Try.prog 21 f21_sm :=
  sum_of (c := f21_fx) (fn := Try.f21) (code := f21_code) (sm := f21_sm) mixed (env_ok env_envB) (TabsOk.all trivial) Try.func21 (by kernel_rfl)
   ((LoopsOk.of (l := [f21_l5_b]) (by kernel_rfl) ⟨node_is (by kernel_rfl) f21_l5_ok, trivial⟩))
   (no_tails (by kernel_rfl))
   (fun ks x hl => by
    have hk : ks = [] := List.length_eq_zero_iff.1 hl
    subst hk
    exact (f21_m x).trans (f21_n _ _ _))
/-! bakelite/image.Check -/
noncomputable def f16_code : Code := (Try.f16.body).getD .skip
noncomputable def f16_l6_sk : SkS := ⟨7, [(33, .con (.slc (.slc (.int .u8)))), (0, .con (.int .i64)), (0, .con (.int .i64))], []⟩
noncomputable def f16_l6_o0 : SkS := ⟨40, [(2, .con (.int .i64))], []⟩
noncomputable def f16_l6_o1 : SkS := ⟨43, [], []⟩
noncomputable def f16_l6_outs : List Way := [⟨.ret, [], f16_l6_o0⟩, ⟨(.exit 0), [], f16_l6_o1⟩]
abbrev f16_l6_C := (List (List Int) × Int)
abbrev f16_l6_X := Int
abbrev f16_l6_Y := (Unit) ⊕ (Unit)
noncomputable def f16_l6_con (t : f16_l6_sk.T) : f16_l6_C := (t.1.1, t.1.2.1)
noncomputable def f16_l6_get (t : f16_l6_sk.T) : f16_l6_X := t.1.2.2.1
noncomputable def f16_l6_put (c : f16_l6_C) (x : f16_l6_X) : f16_l6_sk.T := ((c.1, (c.2, (x, ()))), ())
theorem f16_l6_pg (t : f16_l6_sk.T) : f16_l6_put (f16_l6_con t) (f16_l6_get t) = t := by kernel_rfl
noncomputable def f16_l6_w0 (c : f16_l6_C) (y : Unit) : f16_l6_o0.T := (((3 : Int), ()), ())
noncomputable def f16_l6_w1 (c : f16_l6_C) (y : Unit) : f16_l6_o1.T := ((), ())
noncomputable def f16_l6_out (c : f16_l6_C) (y : f16_l6_Y) : OutV f16_l6_outs := (Sum.elim (fun y => (.inl (f16_l6_w0 c y))) (fun y => (.inr (.inl (f16_l6_w1 c y))))) y
noncomputable def f16_l6_k {R : Type} (a0 : List (List Int)) (a1 : Int) (a2 : Int) (kin : f16_l6_X → Option R) (k0 : Unit → Option R) (k1 : Unit → Option R) : Option R :=
 (cond (decide (a2 < a1))
 (if (0 : Int) ≤ a2 ∧ a2 < ((List.length a0 : Nat) : Int) then (cond (((List.length (List.getD a0 (Int.toNat a2) ([] : List Int)) : Nat) : Int) != (128 : Int))
  (k0 ())
  (let v1 : Int := (IntKind.i64.wrap (a2 + (1 : Int)))
   (kin v1))) else none)
 (k1 ()))
noncomputable def f16_l6_g (a0 : List (List Int)) (a1 : Int) (x : f16_l6_X) : Option (f16_l6_X ⊕ f16_l6_Y) := f16_l6_k a0 a1 x (fun x => some (.inl x)) (fun y => some (.inr (.inl y))) (fun y => some (.inr (.inr y)))
noncomputable def f16_l6 (a0 : List (List Int)) (a1 : Int) (x : f16_l6_X) : Option f16_l6_Y := loopO (f16_l6_g a0 a1) x
noncomputable def f16_l6_nd : Node := { nils := [], sk := f16_l6_sk, outs := f16_l6_outs, Y := f16_l6_Y, L := fun t => f16_l6 ((f16_l6_con t).1) ((f16_l6_con t).2) (f16_l6_get t), out := fun t y => f16_l6_out (f16_l6_con t) y, disp := fun t y K => (Sum.elim (fun y => K .ret (f16_l6_o0.fill (f16_l6_w0 (f16_l6_con t) y))) (fun y => K (.exit 0) (f16_l6_o1.fill (f16_l6_w1 (f16_l6_con t) y)))) y }
noncomputable def f16_fx : Fx := { E := env, T := [], H := [], O := [], nodes := [((true, 6), f16_l6_nd)] }
noncomputable def f16_l6_b : Code := (loops f16_code).getD 0 .skip
theorem f16_l6_r (c : f16_l6_C) (x : f16_l6_X) : roundS f16_fx f16_l6_b f16_l6_nd (f16_l6_put c x) = f16_l6_k c.1 c.2 x (fun x => some (.inl (f16_l6_put c x))) (fun y => some (.inr (.inl (f16_l6_w0 c y)))) (fun y => some (.inr (.inr (.inl (f16_l6_w1 c y))))) := by kernel_rfl
theorem f16_l6_n {R : Type} (a0 : List (List Int)) (a1 : Int) (a2 : Int) (kin : f16_l6_X → Option R) (k0 : Unit → Option R) (k1 : Unit → Option R) : f16_l6_k a0 a1 a2 kin k0 k1 = (f16_l6_g a0 a1 a2).bind (Sum.elim kin (Sum.elim k0 k1)) := by
  simp only [f16_l6_g, f16_l6_k, cond_bind, ite_bind, bind_bind, some_bind, none_bind, elim_bind, Sum.elim_inl, Sum.elim_inr]
theorem f16_l6_ok : LoopOk f16_fx f16_l6_b f16_l6_nd := loop_ok f16_l6_con f16_l6_get f16_l6_put f16_l6_pg (fun c => f16_l6_g c.1 c.2) f16_l6_out (fun t y => rfl) (by intro R t y K; rcases y with y | y <;> rfl) (fun c x => by
  refine (f16_l6_r c x).trans ((f16_l6_n _ _ _ _ _ _).trans ?_)
  first
  | rfl
  | congr 1
    funext s
    rcases s with s | s | s <;> rfl) (fun t => rfl)
noncomputable def f16_k {R : Type} (a0 : (Int × (Int × (List (List Int) × Unit)))) (k : (Int × Unit) × (Unit) → Option R) : Option R :=
 (cond (decide (a0.1 < (1 : Int)))
 (k (((1 : Int), ()), ()))
 (cond (decide (a0.1 > (20 : Int)))
  (k (((1 : Int), ()), ()))
  (cond (decide (a0.2.1 < (1 : Int)))
   (k (((1 : Int), ()), ()))
   (cond (decide (a0.2.1 > (12 : Int)))
    (k (((1 : Int), ()), ()))
    (let v0 : Int := (IntKind.i64.wrap (a0.1 * a0.2.1))
     (cond (((List.length a0.2.2.1 : Nat) : Int) != v0)
     (k (((3 : Int), ()), ()))
     ((f16_l6 a0.2.2.1 ((List.length a0.2.2.1 : Nat) : Int) (0 : Int)).bind fun y2 =>
      ((Sum.elim (fun z3 =>
      (k (((3 : Int), ()), ())))
      (fun z4 =>
      (k (((0 : Int), ()), ())))) y2))))))))
noncomputable def f16 (a0 : (Int × (Int × (List (List Int) × Unit)))) : Option ((Int × Unit) × (Unit)) := f16_k a0 some
noncomputable def f16_sm : Sm := ⟨[.ro (.pair (.int .i64) (.pair (.int .i64) (.pair (.slc (.slc (.int .u8))) .unit)))], [((.int .i64), .ro)], fun x => f16 x.1⟩
theorem f16_m (x : ArgT [.ro (.pair (.int .i64) (.pair (.int .i64) (.pair (.slc (.slc (.int .u8))) .unit)))]) : codeS f16_fx f16_code (start [.ro (.pair (.int .i64) (.pair (.int .i64) (.pair (.slc (.slc (.int .u8))) .unit)))] [] x 43) (finK env [.tmp 2] [.ro (.pair (.int .i64) (.pair (.int .i64) (.pair (.slc (.slc (.int .u8))) .unit)))] [((.int .i64), .ro)]) = f16_k x.1 (fun r => some (r, [])) := by kernel_rfl
theorem f16_n {R : Type} (a0 : (Int × (Int × (List (List Int) × Unit)))) (k : (Int × Unit) × (Unit) → Option R) : f16_k a0 k = (f16 a0).bind k := by
  simp only [f16, f16_k, cond_bind, ite_bind, bind_bind, some_bind, none_bind, elim_bind]
theorem f16_f : FnOk Try.prog 16 := ⟨Try.f16, Try.func16, by kernel_rfl, by kernel_rfl⟩
theorem f16_ok : SmOk Try.prog 16 f16_sm :=
  sum_of (c := f16_fx) (fn := Try.f16) (code := f16_code) (sm := f16_sm) mixed (env_ok env_envB) (TabsOk.all trivial) Try.func16 (by kernel_rfl)
   ((LoopsOk.of (l := [f16_l6_b]) (by kernel_rfl) ⟨node_is (by kernel_rfl) f16_l6_ok, trivial⟩))
   (no_tails (by kernel_rfl))
   (fun ks x hl => by
    have hk : ks = [] := List.length_eq_zero_iff.1 hl
    subst hk
    exact (f16_m x).trans (f16_n _ _))
/-! bakelite/bakelaw2.imageBegun -/
noncomputable def f15_code : Code := (Try.f15.body).getD .skip
noncomputable def f15_fx : Fx := { E := env, T := [(21, f21_sm), (16, f16_sm)], H := [], O := [], nodes := [] }
noncomputable def f15_k {R : Type} (k : (Bool × Unit) × (Unit) → Option R) : Option R :=
 ((f21 (2 : Int) (3 : Int)).bind fun r0 =>
 (cond (r0.1.2.1 == (0 : Int))
 (cond (((List.length r0.1.1.2.2.1 : Nat) : Int) == (6 : Int))
  ((f16 r0.1.1).bind fun r1 =>
   (cond (r1.1.1 == (0 : Int))
   ((f16 ((0 : Int), ((0 : Int), ([], ())))).bind fun r2 =>
    (k (((r2.1.1 == (1 : Int)), ()), ())))
   (k ((false, ()), ()))))
  (k ((false, ()), ())))
 (k ((false, ()), ()))))
noncomputable def f15 : Option ((Bool × Unit) × (Unit)) := f15_k some
noncomputable def f15_sm : Sm := ⟨[], [(.bool, .ro)], fun x => f15⟩
theorem f15_m (x : ArgT []) : codeS f15_fx f15_code (start [] [] x 25) (finK env [.tmp 0] [] [(.bool, .ro)]) = f15_k (fun r => some (r, [])) := by kernel_rfl
theorem f15_n {R : Type} (k : (Bool × Unit) × (Unit) → Option R) : f15_k k = (f15).bind k := by
  simp only [f15, f15_k, cond_bind, ite_bind, bind_bind, some_bind, none_bind, elim_bind]
theorem f15_f : FnOk Try.prog 15 := ⟨Try.f15, Try.func15, by kernel_rfl, by kernel_rfl⟩
theorem f15_ok : SmOk Try.prog 15 f15_sm :=
  sum_of (c := f15_fx) (fn := Try.f15) (code := f15_code) (sm := f15_sm) mixed (env_ok env_envB) (TabsOk.all ⟨⟨f21_ok, f21_f⟩, ⟨f16_ok, f16_f⟩, trivial⟩) Try.func15 (by kernel_rfl)
   ((LoopsOk.of (l := []) (by kernel_rfl) trivial))
   (no_tails (by kernel_rfl))
   (fun ks x hl => by
    have hk : ks = [] := List.length_eq_zero_iff.1 hl
    subst hk
    exact (f15_m x).trans (f15_n _))
/-! bakelite/sect.Format -/
noncomputable def f57_code : Code := (Try.f57.body).getD .skip
noncomputable def f57_l6_sk : SkS := ⟨43, [(2, .con (.int .i64)), (6, .ref 159 []), (13, .con (.slc (.pair (.int .i64) (.pair (.int .i64) (.pair (.slc (.int .u8)) (.pair .bool .unit)))))), (0, .con (.int .i64)), (0, .con (.int .i64))], [(159, ⟨none, (.slc (.pair .bool (.pair (.slc (.int .u8)) .unit))), (.own .ro)⟩)]⟩
noncomputable def f57_l6_o0 : SkS := ⟨59, [(2, .con (.int .i64)), (6, .ref 159 [])], [(159, ⟨none, (.slc (.pair .bool (.pair (.slc (.int .u8)) .unit))), (.own .ro)⟩)]⟩
noncomputable def f57_l6_outs : List Way := [⟨(.exit 0), [], f57_l6_o0⟩]
abbrev f57_l6_C := (Int × List (Int × (Int × (List Int × (Bool × Unit)))) × Int)
abbrev f57_l6_X := (Int × List (Bool × (List Int × Unit)))
abbrev f57_l6_Y := (List (Bool × (List Int × Unit)))
noncomputable def f57_l6_con (t : f57_l6_sk.T) : f57_l6_C := (t.1.1, t.1.2.1, t.1.2.2.1)
noncomputable def f57_l6_get (t : f57_l6_sk.T) : f57_l6_X := (t.1.2.2.2.1, t.2.1.1)
noncomputable def f57_l6_put (c : f57_l6_C) (x : f57_l6_X) : f57_l6_sk.T := ((c.1, (c.2.1, (c.2.2, (x.1, ())))), ((x.2, ()), ()))
theorem f57_l6_pg (t : f57_l6_sk.T) : f57_l6_put (f57_l6_con t) (f57_l6_get t) = t := by kernel_rfl
noncomputable def f57_l6_w0 (c : f57_l6_C) (y : List (Bool × (List Int × Unit))) : f57_l6_o0.T := ((c.1, ()), ((y, ()), ()))
noncomputable def f57_l6_out (c : f57_l6_C) (y : f57_l6_Y) : OutV f57_l6_outs := (fun y => (.inl (f57_l6_w0 c y))) y
noncomputable def f57_l6_k {R : Type} (a0 : Int) (a1 : List (Int × (Int × (List Int × (Bool × Unit))))) (a2 : Int) (a3 : Int) (a4 : List (Bool × (List Int × Unit))) (kin : f57_l6_X → Option R) (k0 : List (Bool × (List Int × Unit)) → Option R) : Option R :=
 (cond (decide (a3 < a2))
 (if (0 : Int) ≤ a3 ∧ a3 < ((List.length a1 : Nat) : Int) then (let v2 : Int := (IntKind.u8.wrap (List.getD a1 (Int.toNat a3) ((0 : Int), ((0 : Int), (([] : List Int), (false, ()))))).1)
  (let v3 : Int := (IntKind.u8.wrap (List.getD a1 (Int.toNat a3) ((0 : Int), ((0 : Int), (([] : List Int), (false, ()))))).2.1)
  ((f115 [(254 : Int), v2, v3]).bind fun r4 =>
  (if (1 + List.length (List.getD a1 (Int.toNat a3) ((0 : Int), ((0 : Int), (([] : List Int), (false, ()))))).2.2.1) * 1 ≤ most ∧ 0 < 1 ∧ 0 < 1 then (let r5 : List Int := ([(251 : Int)] ++ (List.getD a1 (Int.toNat a3) ((0 : Int), ((0 : Int), (([] : List Int), (false, ()))))).2.2.1)
  ((f115 r5).bind fun r6 =>
  (cond (List.getD a1 (Int.toNat a3) ((0 : Int), ((0 : Int), (([] : List Int), (false, ()))))).2.2.2.1
  (let v7 : Int := (IntKind.i64.wrap (((List.length r6.1.1 : Nat) : Int) - (1 : Int)))
   (if (0 : Int) ≤ v7 ∧ v7 < ((List.length r6.1.1 : Nat) : Int) then (let v8 : Int := (bitop IntKind.u8 .xor (List.getD r6.1.1 (Int.toNat v7) (0 : Int)) (255 : Int))
   (if (0 : Int) ≤ v7 ∧ v7 < ((List.length r6.1.1 : Nat) : Int) then ((f114).bind fun r9 =>
   (if (List.length r4.1.1 + List.length r9.1.1) * 1 ≤ most ∧ 0 < 1 ∧ 0 < 1 then (let r10 : List Int := (r4.1.1 ++ r9.1.1)
   ((f114).bind fun r11 =>
   (if (List.length (List.set r6.1.1 (Int.toNat v7) v8) + List.length r11.1.1) * 1 ≤ most ∧ 0 < 1 ∧ 0 < 1 then (let r12 : List Int := ((List.set r6.1.1 (Int.toNat v7) v8) ++ r11.1.1)
   (if (List.length a4 + 2) * 32 ≤ most ∧ 0 < 32 ∧ 0 < 2 then (let r13 : List (Bool × (List Int × Unit)) := (a4 ++ [(true, (r10, ())), (true, (r12, ()))])
   (let v14 : Int := (IntKind.i64.wrap (a3 + (1 : Int)))
   (kin (v14, r13)))) else none)) else none))) else none)) else none)) else none))
  ((f114).bind fun r15 =>
   (if (List.length r4.1.1 + List.length r15.1.1) * 1 ≤ most ∧ 0 < 1 ∧ 0 < 1 then (let r16 : List Int := (r4.1.1 ++ r15.1.1)
   ((f114).bind fun r17 =>
   (if (List.length r6.1.1 + List.length r17.1.1) * 1 ≤ most ∧ 0 < 1 ∧ 0 < 1 then (let r18 : List Int := (r6.1.1 ++ r17.1.1)
   (if (List.length a4 + 2) * 32 ≤ most ∧ 0 < 32 ∧ 0 < 2 then (let r19 : List (Bool × (List Int × Unit)) := (a4 ++ [(true, (r16, ())), (true, (r18, ()))])
   (let v20 : Int := (IntKind.i64.wrap (a3 + (1 : Int)))
   (kin (v20, r19)))) else none)) else none))) else none))))) else none)))) else none)
 (k0 a4))
noncomputable def f57_l6_g (a0 : Int) (a1 : List (Int × (Int × (List Int × (Bool × Unit))))) (a2 : Int) (x : f57_l6_X) : Option (f57_l6_X ⊕ f57_l6_Y) := f57_l6_k a0 a1 a2 x.1 x.2 (fun x => some (.inl x)) (fun y => some (.inr y))
noncomputable def f57_l6 (a0 : Int) (a1 : List (Int × (Int × (List Int × (Bool × Unit))))) (a2 : Int) (x : f57_l6_X) : Option f57_l6_Y := loopO (f57_l6_g a0 a1 a2) x
noncomputable def f57_l6_nd : Node := { nils := [(9, 159, (.pair .bool (.pair (.slc (.int .u8)) .unit)), .ro)], sk := f57_l6_sk, outs := f57_l6_outs, Y := f57_l6_Y, L := fun t => f57_l6 ((f57_l6_con t).1) ((f57_l6_con t).2.1) ((f57_l6_con t).2.2) (f57_l6_get t), out := fun t y => f57_l6_out (f57_l6_con t) y, disp := fun t y K => (fun y => K (.exit 0) (f57_l6_o0.fill (f57_l6_w0 (f57_l6_con t) y))) y }
noncomputable def f57_fx : Fx := { E := env, T := [(58, f58_sm), (114, f114_sm), (115, f115_sm), (29, f29_sm)], H := [], O := [], nodes := [((true, 6), f57_l6_nd)] }
noncomputable def f57_l6_b : Code := (loops f57_code).getD 0 .skip
theorem f57_l6_r (c : f57_l6_C) (x : f57_l6_X) : roundS f57_fx f57_l6_b f57_l6_nd (f57_l6_put c x) = f57_l6_k c.1 c.2.1 c.2.2 x.1 x.2 (fun x => some (.inl (f57_l6_put c x))) (fun y => some (.inr (.inl (f57_l6_w0 c y)))) := by kernel_rfl
theorem f57_l6_n {R : Type} (a0 : Int) (a1 : List (Int × (Int × (List Int × (Bool × Unit))))) (a2 : Int) (a3 : Int) (a4 : List (Bool × (List Int × Unit))) (kin : f57_l6_X → Option R) (k0 : List (Bool × (List Int × Unit)) → Option R) : f57_l6_k a0 a1 a2 a3 a4 kin k0 = (f57_l6_g a0 a1 a2 (a3, a4)).bind (Sum.elim kin k0) := by
  simp only [f57_l6_g, f57_l6_k, cond_bind, ite_bind, bind_bind, some_bind, none_bind, elim_bind, Sum.elim_inl, Sum.elim_inr]
theorem f57_l6_ok : LoopOk f57_fx f57_l6_b f57_l6_nd := loop_ok f57_l6_con f57_l6_get f57_l6_put f57_l6_pg (fun c => f57_l6_g c.1 c.2.1 c.2.2) f57_l6_out (fun t y => rfl) (fun t y K => rfl) (fun c x => by
  refine (f57_l6_r c x).trans ((f57_l6_n _ _ _ _ _ _ _).trans ?_)
  first
  | rfl
  | congr 1
    funext s
    rcases s with s | s <;> rfl) (fun t => rfl)
noncomputable def f57_k {R : Type} (a0 : Int) (a1 : List (Int × (Int × (List Int × (Bool × Unit))))) (a2 : Int) (k : (List Int × Int × Unit) × (Unit) → Option R) : Option R :=
 ((f58 a0 a1).bind fun r0 =>
 (cond (r0.1.1 != (0 : Int))
 (k (([], (r0.1.1, ())), ()))
 ((f114).bind fun r1 =>
  ((f57_l6 a2 a1 ((List.length a1 : Nat) : Int) ((0 : Int), [(false, (r1.1.1, ()))])).bind fun y21 =>
  ((f29 y21 a2).bind fun r22 =>
  (k ((r22.1.1, (r22.1.2.1, ())), ())))))))
noncomputable def f57 (a0 : Int) (a1 : List (Int × (Int × (List Int × (Bool × Unit))))) (a2 : Int) : Option ((List Int × Int × Unit) × (Unit)) := f57_k a0 a1 a2 some
noncomputable def f57_sm : Sm := ⟨[.ro (.int .i64), .ro (.slc (.pair (.int .i64) (.pair (.int .i64) (.pair (.slc (.int .u8)) (.pair .bool .unit))))), .ro (.int .i64)], [((.slc (.int .i64)), (.own .ro)), ((.int .i64), .ro)], fun x => f57 x.1 x.2.1 x.2.2.1⟩
theorem f57_m (x : ArgT [.ro (.int .i64), .ro (.slc (.pair (.int .i64) (.pair (.int .i64) (.pair (.slc (.int .u8)) (.pair .bool .unit))))), .ro (.int .i64)]) : codeS f57_fx f57_code (start [.ro (.int .i64), .ro (.slc (.pair (.int .i64) (.pair (.int .i64) (.pair (.slc (.int .u8)) (.pair .bool .unit))))), .ro (.int .i64)] [] x 69) (finK env [.tmp 6, .tmp 7] [.ro (.int .i64), .ro (.slc (.pair (.int .i64) (.pair (.int .i64) (.pair (.slc (.int .u8)) (.pair .bool .unit))))), .ro (.int .i64)] [((.slc (.int .i64)), (.own .ro)), ((.int .i64), .ro)]) = f57_k x.1 x.2.1 x.2.2.1 (fun r => some (r, [])) := by kernel_rfl
theorem f57_n {R : Type} (a0 : Int) (a1 : List (Int × (Int × (List Int × (Bool × Unit))))) (a2 : Int) (k : (List Int × Int × Unit) × (Unit) → Option R) : f57_k a0 a1 a2 k = (f57 a0 a1 a2).bind k := by
  simp only [f57, f57_k, cond_bind, ite_bind, bind_bind, some_bind, none_bind, elim_bind]
theorem f57_f : FnOk Try.prog 57 := ⟨Try.f57, Try.func57, by kernel_rfl, by kernel_rfl⟩
theorem f57_ok : SmOk Try.prog 57 f57_sm :=
  sum_of (c := f57_fx) (fn := Try.f57) (code := f57_code) (sm := f57_sm) mixed (env_ok env_envB) (TabsOk.all ⟨⟨f58_ok, f58_f⟩, ⟨f114_ok, f114_f⟩, ⟨f115_ok, f115_f⟩, ⟨f29_ok, f29_f⟩, trivial⟩) Try.func57 (by kernel_rfl)
   ((LoopsOk.of (l := [f57_l6_b]) (by kernel_rfl) ⟨node_is (by kernel_rfl) f57_l6_ok, trivial⟩))
   (no_tails (by kernel_rfl))
   (fun ks x hl => by
    have hk : ks = [] := List.length_eq_zero_iff.1 hl
    subst hk
    exact (f57_m x).trans (f57_n _ _ _ _))
/-! bakelite/image.Tracks -/
noncomputable def f51_code : Code := (Try.f51.body).getD .skip
noncomputable def f51_l10_sk : SkS := ⟨35, [(1, .con (.int .i64)), (0, .ptr 32 []), (4, .ref 127 []), (0, .con (.int .i64)), (0, .ref 159 []), (9, .con (.int .i64)), (0, .con (.int .i64)), (3, .con (.int .i64)), (0, .con (.int .i64))], [(32, ⟨some 24, (.pair (.int .i64) (.pair (.int .i64) (.pair (.slc (.slc (.int .u8))) .unit))), .ro⟩), (127, ⟨none, (.slc (.slc (.int .i64))), (.own .ro)⟩), (159, ⟨none, (.slc (.pair (.int .i64) (.pair (.int .i64) (.pair (.slc (.int .u8)) (.pair .bool .unit))))), (.own .ro)⟩)]⟩
noncomputable def f51_l10_o0 : SkS := ⟨40, [(1, .con (.int .i64)), (0, .ptr 32 []), (4, .ref 127 []), (0, .con (.int .i64)), (0, .ref 159 []), (9, .con (.int .i64)), (0, .con (.int .i64))], [(32, ⟨some 24, (.pair (.int .i64) (.pair (.int .i64) (.pair (.slc (.slc (.int .u8))) .unit))), .ro⟩), (127, ⟨none, (.slc (.slc (.int .i64))), (.own .ro)⟩), (159, ⟨none, (.slc (.pair (.int .i64) (.pair (.int .i64) (.pair (.slc (.int .u8)) (.pair .bool .unit))))), (.own .ro)⟩)]⟩
noncomputable def f51_l10_outs : List Way := [⟨(.exit 2), [], f51_l10_o0⟩]
abbrev f51_l10_C := (Int × Int × Int × Int × Int × (Int × (Int × (List (List Int) × Unit))) × List (List Int) × (Option Nat))
abbrev f51_l10_X := (Int × List (Int × (Int × (List Int × (Bool × Unit)))))
abbrev f51_l10_Y := (List (Int × (Int × (List Int × (Bool × Unit)))))
noncomputable def f51_l10_con (t : f51_l10_sk.T) : f51_l10_C := (t.1.1, t.1.2.1, t.1.2.2.1, t.1.2.2.2.1, t.1.2.2.2.2.1, t.2.1.1, t.2.2.1.1, t.2.1.2)
noncomputable def f51_l10_get (t : f51_l10_sk.T) : f51_l10_X := (t.1.2.2.2.2.2.1, t.2.2.2.1.1)
noncomputable def f51_l10_put (c : f51_l10_C) (x : f51_l10_X) : f51_l10_sk.T := ((c.1, (c.2.1, (c.2.2.1, (c.2.2.2.1, (c.2.2.2.2.1, (x.1, ())))))), ((c.2.2.2.2.2.1, c.2.2.2.2.2.2.2), ((c.2.2.2.2.2.2.1, ()), ((x.2, ()), ()))))
theorem f51_l10_pg (t : f51_l10_sk.T) : f51_l10_put (f51_l10_con t) (f51_l10_get t) = t := by kernel_rfl
noncomputable def f51_l10_w0 (c : f51_l10_C) (y : List (Int × (Int × (List Int × (Bool × Unit))))) : f51_l10_o0.T := ((c.1, (c.2.1, (c.2.2.1, (c.2.2.2.1, ())))), ((c.2.2.2.2.2.1, c.2.2.2.2.2.2.2), ((c.2.2.2.2.2.2.1, ()), ((y, ()), ()))))
noncomputable def f51_l10_out (c : f51_l10_C) (y : f51_l10_Y) : OutV f51_l10_outs := (fun y => (.inl (f51_l10_w0 c y))) y
noncomputable def f51_l10_k {R : Type} (a0 : Int) (a1 : Int) (a2 : Int) (a3 : Int) (a4 : Int) (a5 : Int) (a6 : (Int × (Int × (List (List Int) × Unit)))) (a7 : List (List Int)) (a8 : List (Int × (Int × (List Int × (Bool × Unit))))) (kin : f51_l10_X → Option R) (k0 : List (Int × (Int × (List Int × (Bool × Unit)))) → Option R) : Option R :=
 (cond (decide (a5 < a4))
 (let v1 : Int := (IntKind.i64.wrap (a1 * a6.2.1))
  (let v2 : Int := (IntKind.i64.wrap (v1 + a5))
  (if (0 : Int) ≤ v2 ∧ v2 < ((List.length a6.2.2.1 : Nat) : Int) then (if (List.length a8 + 1) * 48 ≤ most ∧ 0 < 48 ∧ 0 < 4 then (let r3 : List (Int × (Int × (List Int × (Bool × Unit)))) := (a8 ++ [(a1, (a5, ((List.getD a6.2.2.1 (Int.toNat v2) ([] : List Int)), (false, ()))))])
  (let v4 : Int := (IntKind.i64.wrap (a5 + (1 : Int)))
  (kin (v4, r3)))) else none) else none)))
 (k0 a8))
noncomputable def f51_l10_g (a0 : Int) (a1 : Int) (a2 : Int) (a3 : Int) (a4 : Int) (a6 : (Int × (Int × (List (List Int) × Unit)))) (a7 : List (List Int)) (x : f51_l10_X) : Option (f51_l10_X ⊕ f51_l10_Y) := f51_l10_k a0 a1 a2 a3 a4 x.1 a6 a7 x.2 (fun x => some (.inl x)) (fun y => some (.inr y))
noncomputable def f51_l10 (a0 : Int) (a1 : Int) (a2 : Int) (a3 : Int) (a4 : Int) (a6 : (Int × (Int × (List (List Int) × Unit)))) (a7 : List (List Int)) (x : f51_l10_X) : Option f51_l10_Y := loopO (f51_l10_g a0 a1 a2 a3 a4 a6 a7) x
noncomputable def f51_l10_nd : Node := { nils := [(9, 159, (.pair (.int .i64) (.pair (.int .i64) (.pair (.slc (.int .u8)) (.pair .bool .unit)))), .ro)], sk := f51_l10_sk, outs := f51_l10_outs, Y := f51_l10_Y, L := fun t => f51_l10 ((f51_l10_con t).1) ((f51_l10_con t).2.1) ((f51_l10_con t).2.2.1) ((f51_l10_con t).2.2.2.1) ((f51_l10_con t).2.2.2.2.1) ((f51_l10_con t).2.2.2.2.2.1) ((f51_l10_con t).2.2.2.2.2.2.1) (f51_l10_get t), out := fun t y => f51_l10_out (f51_l10_con t) y, disp := fun t y K => (fun y => K (.exit 2) (f51_l10_o0.fill (f51_l10_w0 (f51_l10_con t) y))) y }
noncomputable def f51_l6_sk : SkS := ⟨40, [(1, .con (.int .i64)), (0, .ptr 32 []), (4, .ref 127 []), (11, .con (.int .i64)), (0, .con (.int .i64))], [(32, ⟨some 24, (.pair (.int .i64) (.pair (.int .i64) (.pair (.slc (.slc (.int .u8))) .unit))), .ro⟩), (127, ⟨none, (.slc (.slc (.int .i64))), (.own .ro)⟩)]⟩
noncomputable def f51_l6_o0 : SkS := ⟨55, [(4, .nil), (0, .con (.int .i64))], []⟩
noncomputable def f51_l6_o1 : SkS := ⟨53, [(7, .ref 127 [])], [(127, ⟨none, (.slc (.slc (.int .i64))), (.own .ro)⟩)]⟩
noncomputable def f51_l6_outs : List Way := [⟨.ret, [], f51_l6_o0⟩, ⟨(.exit 0), [], f51_l6_o1⟩]
abbrev f51_l6_C := (Int × Int × (Int × (Int × (List (List Int) × Unit))) × (Option Nat))
abbrev f51_l6_X := (Int × List (List Int))
abbrev f51_l6_Y := (Int) ⊕ (List (List Int))
noncomputable def f51_l6_con (t : f51_l6_sk.T) : f51_l6_C := (t.1.1, t.1.2.1, t.2.1.1, t.2.1.2)
noncomputable def f51_l6_get (t : f51_l6_sk.T) : f51_l6_X := (t.1.2.2.1, t.2.2.1.1)
noncomputable def f51_l6_put (c : f51_l6_C) (x : f51_l6_X) : f51_l6_sk.T := ((c.1, (c.2.1, (x.1, ()))), ((c.2.2.1, c.2.2.2), ((x.2, ()), ())))
theorem f51_l6_pg (t : f51_l6_sk.T) : f51_l6_put (f51_l6_con t) (f51_l6_get t) = t := by kernel_rfl
noncomputable def f51_l6_w0 (c : f51_l6_C) (y : Int) : f51_l6_o0.T := ((y, ()), ())
noncomputable def f51_l6_w1 (c : f51_l6_C) (y : List (List Int)) : f51_l6_o1.T := ((), ((y, ()), ()))
noncomputable def f51_l6_out (c : f51_l6_C) (y : f51_l6_Y) : OutV f51_l6_outs := (Sum.elim (fun y => (.inl (f51_l6_w0 c y))) (fun y => (.inr (.inl (f51_l6_w1 c y))))) y
noncomputable def f51_l6_k {R : Type} (a0 : Int) (a1 : Int) (a2 : Int) (a3 : (Int × (Int × (List (List Int) × Unit)))) (a4 : List (List Int)) (kin : f51_l6_X → Option R) (k0 : Int → Option R) (k1 : List (List Int) → Option R) : Option R :=
 (cond (decide (a2 < a1))
 ((f51_l10 a0 a2 a1 a2 a3.2.1 a3 a4 ((0 : Int), [])).bind fun y5 =>
  ((f57 a2 y5 a0).bind fun r6 =>
  (cond (r6.1.2.1 != (0 : Int))
  (k0 r6.1.2.1)
  (if (List.length a4 + 1) * 24 ≤ most ∧ 0 < 24 ∧ 0 < 1 then (let r7 : List (List Int) := (a4 ++ [r6.1.1])
   (let v8 : Int := (IntKind.i64.wrap (a2 + (1 : Int)))
   (kin (v8, r7)))) else none))))
 (k1 a4))
noncomputable def f51_l6_g (a0 : Int) (a1 : Int) (a3 : (Int × (Int × (List (List Int) × Unit)))) (x : f51_l6_X) : Option (f51_l6_X ⊕ f51_l6_Y) := f51_l6_k a0 a1 x.1 a3 x.2 (fun x => some (.inl x)) (fun y => some (.inr (.inl y))) (fun y => some (.inr (.inr y)))
noncomputable def f51_l6 (a0 : Int) (a1 : Int) (a3 : (Int × (Int × (List (List Int) × Unit)))) (x : f51_l6_X) : Option f51_l6_Y := loopO (f51_l6_g a0 a1 a3) x
noncomputable def f51_l6_nd : Node := { nils := [(7, 127, (.slc (.int .i64)), .ro)], sk := f51_l6_sk, outs := f51_l6_outs, Y := f51_l6_Y, L := fun t => f51_l6 ((f51_l6_con t).1) ((f51_l6_con t).2.1) ((f51_l6_con t).2.2.1) (f51_l6_get t), out := fun t y => f51_l6_out (f51_l6_con t) y, disp := fun t y K => (Sum.elim (fun y => K .ret (f51_l6_o0.fill (f51_l6_w0 (f51_l6_con t) y))) (fun y => K (.exit 0) (f51_l6_o1.fill (f51_l6_w1 (f51_l6_con t) y)))) y }
noncomputable def f51_fx : Fx := { E := env, T := [(16, f16_sm), (57, f57_sm)], H := [], O := [], nodes := [((true, 10), f51_l10_nd), ((true, 6), f51_l6_nd)] }
noncomputable def f51_l10_b : Code := (loops f51_code).getD 1 .skip
theorem f51_l10_r (c : f51_l10_C) (x : f51_l10_X) : roundS f51_fx f51_l10_b f51_l10_nd (f51_l10_put c x) = f51_l10_k c.1 c.2.1 c.2.2.1 c.2.2.2.1 c.2.2.2.2.1 x.1 c.2.2.2.2.2.1 c.2.2.2.2.2.2.1 x.2 (fun x => some (.inl (f51_l10_put c x))) (fun y => some (.inr (.inl (f51_l10_w0 c y)))) := by kernel_rfl
theorem f51_l10_n {R : Type} (a0 : Int) (a1 : Int) (a2 : Int) (a3 : Int) (a4 : Int) (a5 : Int) (a6 : (Int × (Int × (List (List Int) × Unit)))) (a7 : List (List Int)) (a8 : List (Int × (Int × (List Int × (Bool × Unit))))) (kin : f51_l10_X → Option R) (k0 : List (Int × (Int × (List Int × (Bool × Unit)))) → Option R) : f51_l10_k a0 a1 a2 a3 a4 a5 a6 a7 a8 kin k0 = (f51_l10_g a0 a1 a2 a3 a4 a6 a7 (a5, a8)).bind (Sum.elim kin k0) := by
  simp only [f51_l10_g, f51_l10_k, cond_bind, ite_bind, bind_bind, some_bind, none_bind, elim_bind, Sum.elim_inl, Sum.elim_inr]
theorem f51_l10_ok : LoopOk f51_fx f51_l10_b f51_l10_nd := loop_ok f51_l10_con f51_l10_get f51_l10_put f51_l10_pg (fun c => f51_l10_g c.1 c.2.1 c.2.2.1 c.2.2.2.1 c.2.2.2.2.1 c.2.2.2.2.2.1 c.2.2.2.2.2.2.1) f51_l10_out (fun t y => rfl) (fun t y K => rfl) (fun c x => by
  refine (f51_l10_r c x).trans ((f51_l10_n _ _ _ _ _ _ _ _ _ _ _).trans ?_)
  first
  | rfl
  | congr 1
    funext s
    rcases s with s | s <;> rfl) (fun t => rfl)
noncomputable def f51_l6_b : Code := (loops f51_code).getD 0 .skip
theorem f51_l6_r (c : f51_l6_C) (x : f51_l6_X) : roundS f51_fx f51_l6_b f51_l6_nd (f51_l6_put c x) = f51_l6_k c.1 c.2.1 x.1 c.2.2.1 x.2 (fun x => some (.inl (f51_l6_put c x))) (fun y => some (.inr (.inl (f51_l6_w0 c y)))) (fun y => some (.inr (.inr (.inl (f51_l6_w1 c y))))) := by kernel_rfl
theorem f51_l6_n {R : Type} (a0 : Int) (a1 : Int) (a2 : Int) (a3 : (Int × (Int × (List (List Int) × Unit)))) (a4 : List (List Int)) (kin : f51_l6_X → Option R) (k0 : Int → Option R) (k1 : List (List Int) → Option R) : f51_l6_k a0 a1 a2 a3 a4 kin k0 k1 = (f51_l6_g a0 a1 a3 (a2, a4)).bind (Sum.elim kin (Sum.elim k0 k1)) := by
  simp only [f51_l6_g, f51_l6_k, cond_bind, ite_bind, bind_bind, some_bind, none_bind, elim_bind, Sum.elim_inl, Sum.elim_inr]
theorem f51_l6_ok : LoopOk f51_fx f51_l6_b f51_l6_nd := loop_ok f51_l6_con f51_l6_get f51_l6_put f51_l6_pg (fun c => f51_l6_g c.1 c.2.1 c.2.2.1) f51_l6_out (fun t y => rfl) (by intro R t y K; rcases y with y | y <;> rfl) (fun c x => by
  refine (f51_l6_r c x).trans ((f51_l6_n _ _ _ _ _ _ _ _).trans ?_)
  first
  | rfl
  | congr 1
    funext s
    rcases s with s | s | s <;> rfl) (fun t => rfl)
noncomputable def f51_k {R : Type} (a0 : (Int × (Int × (List (List Int) × Unit)))) (a1 : Int) (k : (List (List Int) × Int × Unit) × (Unit) → Option R) : Option R :=
 ((f16 a0).bind fun r0 =>
 (cond (r0.1.1 != (0 : Int))
 (k (([], (r0.1.1, ())), ()))
 ((f51_l6 a1 a0.1 a0 ((0 : Int), [])).bind fun y9 =>
  ((Sum.elim (fun z10 =>
  (k (([], (z10, ())), ())))
  (fun z11 =>
  (k ((z11, ((0 : Int), ())), ())))) y9))))
noncomputable def f51 (a0 : (Int × (Int × (List (List Int) × Unit)))) (a1 : Int) : Option ((List (List Int) × Int × Unit) × (Unit)) := f51_k a0 a1 some
noncomputable def f51_sm : Sm := ⟨[.ro (.pair (.int .i64) (.pair (.int .i64) (.pair (.slc (.slc (.int .u8))) .unit))), .ro (.int .i64)], [((.slc (.slc (.int .i64))), (.own .ro)), ((.int .i64), .ro)], fun x => f51 x.1 x.2.1⟩
theorem f51_m (x : ArgT [.ro (.pair (.int .i64) (.pair (.int .i64) (.pair (.slc (.slc (.int .u8))) .unit))), .ro (.int .i64)]) : codeS f51_fx f51_code (start [.ro (.pair (.int .i64) (.pair (.int .i64) (.pair (.slc (.slc (.int .u8))) .unit))), .ro (.int .i64)] [] x 61) (finK env [.tmp 4, .tmp 5] [.ro (.pair (.int .i64) (.pair (.int .i64) (.pair (.slc (.slc (.int .u8))) .unit))), .ro (.int .i64)] [((.slc (.slc (.int .i64))), (.own .ro)), ((.int .i64), .ro)]) = f51_k x.1 x.2.1 (fun r => some (r, [])) := by kernel_rfl
theorem f51_n {R : Type} (a0 : (Int × (Int × (List (List Int) × Unit)))) (a1 : Int) (k : (List (List Int) × Int × Unit) × (Unit) → Option R) : f51_k a0 a1 k = (f51 a0 a1).bind k := by
  simp only [f51, f51_k, cond_bind, ite_bind, bind_bind, some_bind, none_bind, elim_bind]
theorem f51_f : FnOk Try.prog 51 := ⟨Try.f51, Try.func51, by kernel_rfl, by kernel_rfl⟩
theorem f51_ok : SmOk Try.prog 51 f51_sm :=
  sum_of (c := f51_fx) (fn := Try.f51) (code := f51_code) (sm := f51_sm) mixed (env_ok env_envB) (TabsOk.all ⟨⟨f16_ok, f16_f⟩, ⟨f57_ok, f57_f⟩, trivial⟩) Try.func51 (by kernel_rfl)
   ((LoopsOk.of (l := [f51_l6_b, f51_l10_b]) (by kernel_rfl) ⟨node_is (by kernel_rfl) f51_l6_ok, node_is (by kernel_rfl) f51_l10_ok, trivial⟩))
   (no_tails (by kernel_rfl))
   (fun ks x hl => by
    have hk : ks = [] := List.length_eq_zero_iff.1 hl
    subst hk
    exact (f51_m x).trans (f51_n _ _ _))
/-! bakelite/bakeref2.DiskErr$1 -/
noncomputable def f72_code : Code := (Try.f72.body).getD .skip
noncomputable def f72_fx : Fx := { E := env, T := [], H := [], O := [], nodes := [] }
noncomputable def f72_k {R : Type} (a0 : List Int) (k : (Bool × Unit) × (Unit) → Option R) : Option R :=
 (k (((((List.length a0 : Nat) : Int) != (128 : Int)), ()), ()))
noncomputable def f72 (a0 : List Int) : Option ((Bool × Unit) × (Unit)) := f72_k a0 some
noncomputable def f72_sm : Sm := ⟨[.ro (.slc (.int .u8))], [(.bool, .ro)], fun x => f72 x.1⟩
theorem f72_m (x : ArgT [.ro (.slc (.int .u8))]) : codeS f72_fx f72_code (start [.ro (.slc (.int .u8))] [] x 6) (finK env [.tmp 2] [.ro (.slc (.int .u8))] [(.bool, .ro)]) = f72_k x.1 (fun r => some (r, [])) := by kernel_rfl
theorem f72_n {R : Type} (a0 : List Int) (k : (Bool × Unit) × (Unit) → Option R) : f72_k a0 k = (f72 a0).bind k := by
  simp only [f72, f72_k, cond_bind, ite_bind, bind_bind, some_bind, none_bind, elim_bind]
theorem f72_f : FnOk Try.prog 72 := ⟨Try.f72, Try.func72, by kernel_rfl, by kernel_rfl⟩
theorem f72_ok : SmOk Try.prog 72 f72_sm :=
  sum_of (c := f72_fx) (fn := Try.f72) (code := f72_code) (sm := f72_sm) mixed (env_ok env_envB) (TabsOk.all trivial) Try.func72 (by kernel_rfl)
   ((LoopsOk.of (l := []) (by kernel_rfl) trivial))
   (no_tails (by kernel_rfl))
   (fun ks x hl => by
    have hk : ks = [] := List.length_eq_zero_iff.1 hl
    subst hk
    exact (f72_m x).trans (f72_n _ _))
/-! slices.IndexFunc[[][]byte,[]byte] -/
noncomputable def f77_code : Code := (Try.f77.body).getD .skip
noncomputable def f77_l2_sk : SkS := ⟨10, [(0, .con (.slc (.slc (.int .u8)))), (0, .fn 72 (.tnil)), (5, .con (.int .i64)), (0, .con (.int .i64))], []⟩
noncomputable def f77_l2_o0 : SkS := ⟨14, [(4, .con (.int .i64))], []⟩
noncomputable def f77_l2_o1 : SkS := ⟨19, [], []⟩
noncomputable def f77_l2_outs : List Way := [⟨.ret, [], f77_l2_o0⟩, ⟨(.exit 0), [], f77_l2_o1⟩]
abbrev f77_l2_C := (List (List Int) × Int)
abbrev f77_l2_X := Int
abbrev f77_l2_Y := (Int) ⊕ (Unit)
noncomputable def f77_l2_con (t : f77_l2_sk.T) : f77_l2_C := (t.1.1, t.1.2.2.1)
noncomputable def f77_l2_get (t : f77_l2_sk.T) : f77_l2_X := t.1.2.2.2.1
noncomputable def f77_l2_put (c : f77_l2_C) (x : f77_l2_X) : f77_l2_sk.T := ((c.1, ((), (c.2, (x, ())))), ())
theorem f77_l2_pg (t : f77_l2_sk.T) : f77_l2_put (f77_l2_con t) (f77_l2_get t) = t := by kernel_rfl
noncomputable def f77_l2_w0 (c : f77_l2_C) (y : Int) : f77_l2_o0.T := ((y, ()), ())
noncomputable def f77_l2_w1 (c : f77_l2_C) (y : Unit) : f77_l2_o1.T := ((), ())
noncomputable def f77_l2_out (c : f77_l2_C) (y : f77_l2_Y) : OutV f77_l2_outs := (Sum.elim (fun y => (.inl (f77_l2_w0 c y))) (fun y => (.inr (.inl (f77_l2_w1 c y))))) y
noncomputable def f77_l2_k {R : Type} (a0 : List (List Int)) (a1 : Int) (a2 : Int) (kin : f77_l2_X → Option R) (k0 : Int → Option R) (k1 : Unit → Option R) : Option R :=
 (cond (decide (a2 < a1))
 (if (0 : Int) ≤ a2 ∧ a2 < ((List.length a0 : Nat) : Int) then ((f72 (List.getD a0 (Int.toNat a2) ([] : List Int))).bind fun r0 =>
  (cond r0.1.1
  (k0 a2)
  (let v1 : Int := (IntKind.i64.wrap (a2 + (1 : Int)))
   (kin v1)))) else none)
 (k1 ()))
noncomputable def f77_l2_g (a0 : List (List Int)) (a1 : Int) (x : f77_l2_X) : Option (f77_l2_X ⊕ f77_l2_Y) := f77_l2_k a0 a1 x (fun x => some (.inl x)) (fun y => some (.inr (.inl y))) (fun y => some (.inr (.inr y)))
noncomputable def f77_l2 (a0 : List (List Int)) (a1 : Int) (x : f77_l2_X) : Option f77_l2_Y := loopO (f77_l2_g a0 a1) x
noncomputable def f77_l2_nd : Node := { nils := [], sk := f77_l2_sk, outs := f77_l2_outs, Y := f77_l2_Y, L := fun t => f77_l2 ((f77_l2_con t).1) ((f77_l2_con t).2) (f77_l2_get t), out := fun t y => f77_l2_out (f77_l2_con t) y, disp := fun t y K => (Sum.elim (fun y => K .ret (f77_l2_o0.fill (f77_l2_w0 (f77_l2_con t) y))) (fun y => K (.exit 0) (f77_l2_o1.fill (f77_l2_w1 (f77_l2_con t) y)))) y }
noncomputable def f77_fx : Fx := { E := env, T := [(72, f72_sm)], H := [], O := [], nodes := [((true, 2), f77_l2_nd)] }
noncomputable def f77_l2_b : Code := (loops f77_code).getD 0 .skip
theorem f77_l2_r (c : f77_l2_C) (x : f77_l2_X) : roundS f77_fx f77_l2_b f77_l2_nd (f77_l2_put c x) = f77_l2_k c.1 c.2 x (fun x => some (.inl (f77_l2_put c x))) (fun y => some (.inr (.inl (f77_l2_w0 c y)))) (fun y => some (.inr (.inr (.inl (f77_l2_w1 c y))))) := by kernel_rfl
theorem f77_l2_n {R : Type} (a0 : List (List Int)) (a1 : Int) (a2 : Int) (kin : f77_l2_X → Option R) (k0 : Int → Option R) (k1 : Unit → Option R) : f77_l2_k a0 a1 a2 kin k0 k1 = (f77_l2_g a0 a1 a2).bind (Sum.elim kin (Sum.elim k0 k1)) := by
  simp only [f77_l2_g, f77_l2_k, cond_bind, ite_bind, bind_bind, some_bind, none_bind, elim_bind, Sum.elim_inl, Sum.elim_inr]
theorem f77_l2_ok : LoopOk f77_fx f77_l2_b f77_l2_nd := loop_ok f77_l2_con f77_l2_get f77_l2_put f77_l2_pg (fun c => f77_l2_g c.1 c.2) f77_l2_out (fun t y => rfl) (by intro R t y K; rcases y with y | y <;> rfl) (fun c x => by
  refine (f77_l2_r c x).trans ((f77_l2_n _ _ _ _ _ _).trans ?_)
  first
  | rfl
  | congr 1
    funext s
    rcases s with s | s | s <;> rfl) (fun t => rfl)
noncomputable def f77_k {R : Type} (a0 : List (List Int)) (a1 : (Unit)) (k : (Int × Unit) × (Unit) → Option R) : Option R :=
 ((f77_l2 a0 ((List.length a0 : Nat) : Int) (0 : Int)).bind fun y2 =>
 ((Sum.elim (fun z3 =>
 (k ((z3, ()), ())))
 (fun z4 =>
 (k (((-1 : Int), ()), ())))) y2))
noncomputable def f77 (a0 : List (List Int)) (a1 : (Unit)) : Option ((Int × Unit) × (Unit)) := f77_k a0 a1 some
noncomputable def f77_sm : Sm := ⟨[.ro (.slc (.slc (.int .u8))), .fn 72 []], [((.int .i64), .ro)], fun x => f77 x.1 x.2.1⟩
theorem f77_m (x : ArgT [.ro (.slc (.slc (.int .u8))), .fn 72 []]) : codeS f77_fx f77_code (start [.ro (.slc (.slc (.int .u8))), .fn 72 []] [] x 19) (finK env [.tmp 4] [.ro (.slc (.slc (.int .u8))), .fn 72 []] [((.int .i64), .ro)]) = f77_k x.1 x.2.1 (fun r => some (r, [])) := by kernel_rfl
theorem f77_n {R : Type} (a0 : List (List Int)) (a1 : (Unit)) (k : (Int × Unit) × (Unit) → Option R) : f77_k a0 a1 k = (f77 a0 a1).bind k := by
  simp only [f77, f77_k, cond_bind, ite_bind, bind_bind, some_bind, none_bind, elim_bind]
theorem f77_f : FnOk Try.prog 77 := ⟨Try.f77, Try.func77, by kernel_rfl, by kernel_rfl⟩
theorem f77_ok : SmOk Try.prog 77 f77_sm :=
  sum_of (c := f77_fx) (fn := Try.f77) (code := f77_code) (sm := f77_sm) mixed (env_ok env_envB) (TabsOk.all ⟨⟨f72_ok, f72_f⟩, trivial⟩) Try.func77 (by kernel_rfl)
   ((LoopsOk.of (l := [f77_l2_b]) (by kernel_rfl) ⟨node_is (by kernel_rfl) f77_l2_ok, trivial⟩))
   (no_tails (by kernel_rfl))
   (fun ks x hl => by
    have hk : ks = [] := List.length_eq_zero_iff.1 hl
    subst hk
    exact (f77_m x).trans (f77_n _ _ _))
/-! slices.ContainsFunc[[][]byte,[]byte] -/
noncomputable def f22_code : Code := (Try.f22.body).getD .skip
noncomputable def f22_fx : Fx := { E := env, T := [(77, f77_sm)], H := [], O := [], nodes := [] }
noncomputable def f22_k {R : Type} (a0 : List (List Int)) (a1 : (Unit)) (k : (Bool × Unit) × (Unit) → Option R) : Option R :=
 ((f77 a0 ()).bind fun r0 =>
 (k (((decide (r0.1.1 ≥ (0 : Int))), ()), ())))
noncomputable def f22 (a0 : List (List Int)) (a1 : (Unit)) : Option ((Bool × Unit) × (Unit)) := f22_k a0 a1 some
noncomputable def f22_sm : Sm := ⟨[.ro (.slc (.slc (.int .u8))), .fn 72 []], [(.bool, .ro)], fun x => f22 x.1 x.2.1⟩
theorem f22_m (x : ArgT [.ro (.slc (.slc (.int .u8))), .fn 72 []]) : codeS f22_fx f22_code (start [.ro (.slc (.slc (.int .u8))), .fn 72 []] [] x 9) (finK env [.tmp 4] [.ro (.slc (.slc (.int .u8))), .fn 72 []] [(.bool, .ro)]) = f22_k x.1 x.2.1 (fun r => some (r, [])) := by kernel_rfl
theorem f22_n {R : Type} (a0 : List (List Int)) (a1 : (Unit)) (k : (Bool × Unit) × (Unit) → Option R) : f22_k a0 a1 k = (f22 a0 a1).bind k := by
  simp only [f22, f22_k, cond_bind, ite_bind, bind_bind, some_bind, none_bind, elim_bind]
theorem f22_f : FnOk Try.prog 22 := ⟨Try.f22, Try.func22, by kernel_rfl, by kernel_rfl⟩
theorem f22_ok : SmOk Try.prog 22 f22_sm :=
  sum_of (c := f22_fx) (fn := Try.f22) (code := f22_code) (sm := f22_sm) mixed (env_ok env_envB) (TabsOk.all ⟨⟨f77_ok, f77_f⟩, trivial⟩) Try.func22 (by kernel_rfl)
   ((LoopsOk.of (l := []) (by kernel_rfl) trivial))
   (no_tails (by kernel_rfl))
   (fun ks x hl => by
    have hk : ks = [] := List.length_eq_zero_iff.1 hl
    subst hk
    exact (f22_m x).trans (f22_n _ _ _))
/-! bakelite/bakeref2.DiskErr -/
noncomputable def f17_code : Code := (Try.f17.body).getD .skip
noncomputable def f17_fx : Fx := { E := env, T := [(22, f22_sm)], H := [], O := [], nodes := [] }
noncomputable def f17_k {R : Type} (a0 : (Int × (Int × (List (List Int) × Unit)))) (k : (Int × Unit) × (Unit) → Option R) : Option R :=
 (let v0 : Int := (if a0.2.1 < a0.1 then a0.2.1 else a0.1)
 (cond (decide (v0 < (1 : Int)))
 (k (((1 : Int), ()), ()))
 (cond (decide (a0.1 > (20 : Int)))
  (k (((1 : Int), ()), ()))
  (cond (decide (a0.2.1 > (12 : Int)))
   (k (((1 : Int), ()), ()))
   (let v1 : Int := (IntKind.i64.wrap (a0.2.1 * a0.1))
    (cond (((List.length a0.2.2.1 : Nat) : Int) != v1)
    (k (((3 : Int), ()), ()))
    ((f22 a0.2.2.1 ()).bind fun r2 =>
     (cond r2.1.1
     (k (((3 : Int), ()), ()))
     (k (((0 : Int), ()), ()))))))))))
noncomputable def f17 (a0 : (Int × (Int × (List (List Int) × Unit)))) : Option ((Int × Unit) × (Unit)) := f17_k a0 some
noncomputable def f17_sm : Sm := ⟨[.ro (.pair (.int .i64) (.pair (.int .i64) (.pair (.slc (.slc (.int .u8))) .unit)))], [((.int .i64), .ro)], fun x => f17 x.1⟩
theorem f17_m (x : ArgT [.ro (.pair (.int .i64) (.pair (.int .i64) (.pair (.slc (.slc (.int .u8))) .unit)))]) : codeS f17_fx f17_code (start [.ro (.pair (.int .i64) (.pair (.int .i64) (.pair (.slc (.slc (.int .u8))) .unit)))] [] x 33) (finK env [.tmp 2] [.ro (.pair (.int .i64) (.pair (.int .i64) (.pair (.slc (.slc (.int .u8))) .unit)))] [((.int .i64), .ro)]) = f17_k x.1 (fun r => some (r, [])) := by kernel_rfl
theorem f17_n {R : Type} (a0 : (Int × (Int × (List (List Int) × Unit)))) (k : (Int × Unit) × (Unit) → Option R) : f17_k a0 k = (f17 a0).bind k := by
  simp only [f17, f17_k, cond_bind, ite_bind, bind_bind, some_bind, none_bind, elim_bind]
theorem f17_f : FnOk Try.prog 17 := ⟨Try.f17, Try.func17, by kernel_rfl, by kernel_rfl⟩
theorem f17_ok : SmOk Try.prog 17 f17_sm :=
  sum_of (c := f17_fx) (fn := Try.f17) (code := f17_code) (sm := f17_sm) mixed (env_ok env_envB) (TabsOk.all ⟨⟨f22_ok, f22_f⟩, trivial⟩) Try.func17 (by kernel_rfl)
   ((LoopsOk.of (l := []) (by kernel_rfl) trivial))
   (no_tails (by kernel_rfl))
   (fun ks x hl => by
    have hk : ks = [] := List.length_eq_zero_iff.1 hl
    subst hk
    exact (f17_m x).trans (f17_n _ _))
/-! bakelite/bakeref2.Formatted -/
noncomputable def f52_code : Code := (Try.f52.body).getD .skip
noncomputable def f52_t12_sk : SkS := ⟨42, [(2, .con (.int .i64)), (6, .con (.slc (.int .u8))), (0, .ref 175 []), (1, .ptr 192 []), (0, .ref 560 []), (11, .con (.slc (.pair (.int .i64) (.pair (.int .i64) (.pair (.slc (.int .u8)) (.pair .bool .unit)))))), (0, .con (.int .i64)), (0, .con (.int .i64))], [(175, ⟨none, (.slc (.pair .bool (.pair (.slc (.int .u8)) .unit))), (.own .ro)⟩), (192, ⟨some 76, (.pair (.int .i64) (.pair (.int .i64) (.pair (.slc (.int .u8)) (.pair .bool .unit)))), .ro⟩), (560, ⟨none, (.slc (.int .u8)), (.own .ro)⟩)]⟩
noncomputable def f52_t12_o0 : SkS := ⟨42, [(2, .con (.int .i64)), (6, .con (.slc (.int .u8))), (0, .ref 1008 []), (14, .con (.slc (.pair (.int .i64) (.pair (.int .i64) (.pair (.slc (.int .u8)) (.pair .bool .unit)))))), (0, .con (.int .i64)), (0, .con (.int .i64))], [(1008, ⟨none, (.slc (.pair .bool (.pair (.slc (.int .u8)) .unit))), (.own .ro)⟩)]⟩
noncomputable def f52_t12_outs : List Way := [⟨.normal, [], f52_t12_o0⟩]
abbrev f52_t12_C := (Option Nat)
abbrev f52_t12_X := (Int × List Int × List (Int × (Int × (List Int × (Bool × Unit)))) × Int × Int × List (Bool × (List Int × Unit)) × (Int × (Int × (List Int × (Bool × Unit)))) × List Int)
abbrev f52_t12_Y := (List (Bool × (List Int × Unit)))
noncomputable def f52_t12_con (t : f52_t12_sk.T) : f52_t12_C := t.2.2.1.2
noncomputable def f52_t12_get (t : f52_t12_sk.T) : f52_t12_X := (t.1.1, t.1.2.1, t.1.2.2.1, t.1.2.2.2.1, t.1.2.2.2.2.1, t.2.1.1, t.2.2.1.1, t.2.2.2.1.1)
noncomputable def f52_t12_put (c : f52_t12_C) (x : f52_t12_X) : f52_t12_sk.T := ((x.1, (x.2.1, (x.2.2.1, (x.2.2.2.1, (x.2.2.2.2.1, ()))))), ((x.2.2.2.2.2.1, ()), ((x.2.2.2.2.2.2.1, c), ((x.2.2.2.2.2.2.2, ()), ()))))
theorem f52_t12_pg (t : f52_t12_sk.T) : f52_t12_put (f52_t12_con t) (f52_t12_get t) = t := by kernel_rfl
noncomputable def f52_t12_w0 (c : f52_t12_C) (x : f52_t12_X) (y : List (Bool × (List Int × Unit))) : f52_t12_o0.T := ((x.1, (x.2.1, (x.2.2.1, (x.2.2.2.1, (x.2.2.2.2.1, ()))))), ((y, ()), ()))
noncomputable def f52_t12_out (c : f52_t12_C) (x : f52_t12_X) (y : f52_t12_Y) : OutV f52_t12_outs := (fun y => (.inl (f52_t12_w0 c x y))) y
noncomputable def f52_t12_k {R : Type} (a0 : Int) (a1 : List Int) (a2 : List (Int × (Int × (List Int × (Bool × Unit))))) (a3 : Int) (a4 : Int) (a5 : List (Bool × (List Int × Unit))) (a6 : (Int × (Int × (List Int × (Bool × Unit))))) (a7 : List Int) (k0 : List (Bool × (List Int × Unit)) → Option R) : Option R :=
 ((f109 [(254 : Int), (IntKind.u8.wrap a6.1), (IntKind.u8.wrap a6.2.1)]).bind fun r5 =>
 ((f102 [r5.1.1, a1]).bind fun r6 =>
 ((f102 [a7, a1]).bind fun r7 =>
 (if (List.length a5 + 2) * 32 ≤ most ∧ 0 < 32 ∧ 0 < 2 then (let r8 : List (Bool × (List Int × Unit)) := (a5 ++ [(true, (r6.1.1, ())), (true, (r7.1.1, ()))])
 (k0 r8)) else none))))
noncomputable def f52_t12 (a0 : Int) (a1 : List Int) (a2 : List (Int × (Int × (List Int × (Bool × Unit))))) (a3 : Int) (a4 : Int) (a5 : List (Bool × (List Int × Unit))) (a6 : (Int × (Int × (List Int × (Bool × Unit))))) (a7 : List Int) : Option f52_t12_Y := f52_t12_k a0 a1 a2 a3 a4 a5 a6 a7 (fun y => some y)
noncomputable def f52_t12_nd : Node := { nils := [], sk := f52_t12_sk, outs := f52_t12_outs, Y := f52_t12_Y, L := fun t => f52_t12 ((f52_t12_get t).1) ((f52_t12_get t).2.1) ((f52_t12_get t).2.2.1) ((f52_t12_get t).2.2.2.1) ((f52_t12_get t).2.2.2.2.1) ((f52_t12_get t).2.2.2.2.2.1) ((f52_t12_get t).2.2.2.2.2.2.1) ((f52_t12_get t).2.2.2.2.2.2.2), out := fun t y => f52_t12_out (f52_t12_con t) (f52_t12_get t) y, disp := fun t y K => (fun y => K .normal (f52_t12_o0.fill (f52_t12_w0 (f52_t12_con t) (f52_t12_get t) y))) y }
noncomputable def f52_l7_sk : SkS := ⟨42, [(2, .con (.int .i64)), (6, .con (.slc (.int .u8))), (0, .ref 175 []), (14, .con (.slc (.pair (.int .i64) (.pair (.int .i64) (.pair (.slc (.int .u8)) (.pair .bool .unit)))))), (0, .con (.int .i64)), (0, .con (.int .i64))], [(175, ⟨none, (.slc (.pair .bool (.pair (.slc (.int .u8)) .unit))), (.own .ro)⟩)]⟩
noncomputable def f52_l7_o0 : SkS := ⟨59, [(2, .con (.int .i64)), (7, .ref 175 [])], [(175, ⟨none, (.slc (.pair .bool (.pair (.slc (.int .u8)) .unit))), (.own .ro)⟩)]⟩
noncomputable def f52_l7_outs : List Way := [⟨(.exit 0), [], f52_l7_o0⟩]
abbrev f52_l7_C := (Int × List Int × List (Int × (Int × (List Int × (Bool × Unit)))) × Int)
abbrev f52_l7_X := (Int × List (Bool × (List Int × Unit)))
abbrev f52_l7_Y := (List (Bool × (List Int × Unit)))
noncomputable def f52_l7_con (t : f52_l7_sk.T) : f52_l7_C := (t.1.1, t.1.2.1, t.1.2.2.1, t.1.2.2.2.1)
noncomputable def f52_l7_get (t : f52_l7_sk.T) : f52_l7_X := (t.1.2.2.2.2.1, t.2.1.1)
noncomputable def f52_l7_put (c : f52_l7_C) (x : f52_l7_X) : f52_l7_sk.T := ((c.1, (c.2.1, (c.2.2.1, (c.2.2.2, (x.1, ()))))), ((x.2, ()), ()))
theorem f52_l7_pg (t : f52_l7_sk.T) : f52_l7_put (f52_l7_con t) (f52_l7_get t) = t := by kernel_rfl
noncomputable def f52_l7_w0 (c : f52_l7_C) (y : List (Bool × (List Int × Unit))) : f52_l7_o0.T := ((c.1, ()), ((y, ()), ()))
noncomputable def f52_l7_out (c : f52_l7_C) (y : f52_l7_Y) : OutV f52_l7_outs := (fun y => (.inl (f52_l7_w0 c y))) y
noncomputable def f52_l7_k {R : Type} (a0 : Int) (a1 : List Int) (a2 : List (Int × (Int × (List Int × (Bool × Unit))))) (a3 : Int) (a4 : Int) (a5 : List (Bool × (List Int × Unit))) (kin : f52_l7_X → Option R) (k0 : List (Bool × (List Int × Unit)) → Option R) : Option R :=
 (cond (decide (a4 < a3))
 (if (0 : Int) ≤ a4 ∧ a4 < ((List.length a2 : Nat) : Int) then (if (1 + List.length (List.getD a2 (Int.toNat a4) ((0 : Int), ((0 : Int), (([] : List Int), (false, ()))))).2.2.1) * 1 ≤ most ∧ 0 < 1 ∧ 0 < 1 then (let r2 : List Int := ([(251 : Int)] ++ (List.getD a2 (Int.toNat a4) ((0 : Int), ((0 : Int), (([] : List Int), (false, ()))))).2.2.1)
  ((f109 r2).bind fun r3 =>
  (cond (List.getD a2 (Int.toNat a4) ((0 : Int), ((0 : Int), (([] : List Int), (false, ()))))).2.2.2.1
  (if (0 : Int) ≤ (130 : Int) ∧ (130 : Int) < ((List.length r3.1.1 : Nat) : Int) then (let v4 : Int := (IntKind.u8.wrap ((255 : Int) - (List.getD r3.1.1 130 (0 : Int))))
   (if (0 : Int) ≤ (130 : Int) ∧ (130 : Int) < ((List.length r3.1.1 : Nat) : Int) then ((f52_t12 a0 a1 a2 a3 a4 a5 (List.getD a2 (Int.toNat a4) ((0 : Int), ((0 : Int), (([] : List Int), (false, ()))))) (List.set r3.1.1 130 v4)).bind fun y9 =>
   (let v10 : Int := (IntKind.i64.wrap (a4 + (1 : Int)))
   (kin (v10, y9)))) else none)) else none)
  ((f52_t12 a0 a1 a2 a3 a4 a5 (List.getD a2 (Int.toNat a4) ((0 : Int), ((0 : Int), (([] : List Int), (false, ()))))) r3.1.1).bind fun y11 =>
   (let v12 : Int := (IntKind.i64.wrap (a4 + (1 : Int)))
   (kin (v12, y11))))))) else none) else none)
 (k0 a5))
noncomputable def f52_l7_g (a0 : Int) (a1 : List Int) (a2 : List (Int × (Int × (List Int × (Bool × Unit))))) (a3 : Int) (x : f52_l7_X) : Option (f52_l7_X ⊕ f52_l7_Y) := f52_l7_k a0 a1 a2 a3 x.1 x.2 (fun x => some (.inl x)) (fun y => some (.inr y))
noncomputable def f52_l7 (a0 : Int) (a1 : List Int) (a2 : List (Int × (Int × (List Int × (Bool × Unit))))) (a3 : Int) (x : f52_l7_X) : Option f52_l7_Y := loopO (f52_l7_g a0 a1 a2 a3) x
noncomputable def f52_l7_nd : Node := { nils := [(10, 175, (.pair .bool (.pair (.slc (.int .u8)) .unit)), .ro)], sk := f52_l7_sk, outs := f52_l7_outs, Y := f52_l7_Y, L := fun t => f52_l7 ((f52_l7_con t).1) ((f52_l7_con t).2.1) ((f52_l7_con t).2.2.1) ((f52_l7_con t).2.2.2) (f52_l7_get t), out := fun t y => f52_l7_out (f52_l7_con t) y, disp := fun t y K => (fun y => K (.exit 0) (f52_l7_o0.fill (f52_l7_w0 (f52_l7_con t) y))) y }
noncomputable def f52_fx : Fx := { E := env, T := [(59, f59_sm), (97, f97_sm), (109, f109_sm), (102, f102_sm), (31, f31_sm)], H := [(20, .ro)], O := [], nodes := [((false, 12), f52_t12_nd), ((true, 7), f52_l7_nd)] }
noncomputable def f52_t12_b : Code := (tails f52_code).getD 14 .skip
theorem f52_t12_r (c : f52_t12_C) (x : f52_t12_X) : tailS f52_fx f52_t12_b f52_t12_nd (f52_t12_put c x) = f52_t12_k x.1 x.2.1 x.2.2.1 x.2.2.2.1 x.2.2.2.2.1 x.2.2.2.2.2.1 x.2.2.2.2.2.2.1 x.2.2.2.2.2.2.2 (fun y => some (.inl (f52_t12_w0 c x y))) := by kernel_rfl
theorem f52_t12_n {R : Type} (a0 : Int) (a1 : List Int) (a2 : List (Int × (Int × (List Int × (Bool × Unit))))) (a3 : Int) (a4 : Int) (a5 : List (Bool × (List Int × Unit))) (a6 : (Int × (Int × (List Int × (Bool × Unit))))) (a7 : List Int) (k0 : List (Bool × (List Int × Unit)) → Option R) : f52_t12_k a0 a1 a2 a3 a4 a5 a6 a7 k0 = (f52_t12 a0 a1 a2 a3 a4 a5 a6 a7).bind k0 := by
  simp only [f52_t12, f52_t12_k, cond_bind, ite_bind, bind_bind, some_bind, none_bind, elim_bind, Sum.elim_inl, Sum.elim_inr]
theorem f52_t12_ok : TailOk f52_fx f52_t12_b f52_t12_nd := tail_ok f52_t12_con f52_t12_get f52_t12_put f52_t12_pg (fun x => f52_t12 x.1 x.2.1 x.2.2.1 x.2.2.2.1 x.2.2.2.2.1 x.2.2.2.2.2.1 x.2.2.2.2.2.2.1 x.2.2.2.2.2.2.2) f52_t12_out (fun t y => rfl) (fun t y K => rfl) (fun c x => by
  refine (f52_t12_r c x).trans ((f52_t12_n _ _ _ _ _ _ _ _ _).trans ?_)
  first
  | rfl
  | congr 1
    funext s
    rfl) (fun t => rfl)
noncomputable def f52_l7_b : Code := (loops f52_code).getD 0 .skip
theorem f52_l7_r (c : f52_l7_C) (x : f52_l7_X) : roundS f52_fx f52_l7_b f52_l7_nd (f52_l7_put c x) = f52_l7_k c.1 c.2.1 c.2.2.1 c.2.2.2 x.1 x.2 (fun x => some (.inl (f52_l7_put c x))) (fun y => some (.inr (.inl (f52_l7_w0 c y)))) := by kernel_rfl
theorem f52_l7_n {R : Type} (a0 : Int) (a1 : List Int) (a2 : List (Int × (Int × (List Int × (Bool × Unit))))) (a3 : Int) (a4 : Int) (a5 : List (Bool × (List Int × Unit))) (kin : f52_l7_X → Option R) (k0 : List (Bool × (List Int × Unit)) → Option R) : f52_l7_k a0 a1 a2 a3 a4 a5 kin k0 = (f52_l7_g a0 a1 a2 a3 (a4, a5)).bind (Sum.elim kin k0) := by
  simp only [f52_l7_g, f52_l7_k, cond_bind, ite_bind, bind_bind, some_bind, none_bind, elim_bind, Sum.elim_inl, Sum.elim_inr]
theorem f52_l7_ok : LoopOk f52_fx f52_l7_b f52_l7_nd := loop_ok f52_l7_con f52_l7_get f52_l7_put f52_l7_pg (fun c => f52_l7_g c.1 c.2.1 c.2.2.1 c.2.2.2) f52_l7_out (fun t y => rfl) (fun t y K => rfl) (fun c x => by
  refine (f52_l7_r c x).trans ((f52_l7_n _ _ _ _ _ _ _ _).trans ?_)
  first
  | rfl
  | congr 1
    funext s
    rcases s with s | s <;> rfl) (fun t => rfl)
noncomputable def f52_k {R : Type} (a0 : Int) (a1 : List (Int × (Int × (List Int × (Bool × Unit))))) (a2 : Int) (k : (List Int × Int × Unit) × (Unit) → Option R) : Option R :=
 ((f59 a0 a1).bind fun r0 =>
 (cond (r0.1.1 != (0 : Int))
 (k (([], (r0.1.1, ())), ()))
 ((f97 [(78 : Int)] (8 : Int)).bind fun r1 =>
  ((f52_l7 a2 r1.1.1 a1 ((List.length a1 : Nat) : Int) ((0 : Int), [(false, (r1.1.1, ()))])).bind fun y13 =>
  ((f31 y13 a2).bind fun r14 =>
  (k ((r14.1.1, (r14.1.2.1, ())), ())))))))
noncomputable def f52 (a0 : Int) (a1 : List (Int × (Int × (List Int × (Bool × Unit))))) (a2 : Int) : Option ((List Int × Int × Unit) × (Unit)) := f52_k a0 a1 a2 some
noncomputable def f52_sm : Sm := ⟨[.ro (.int .i64), .ro (.slc (.pair (.int .i64) (.pair (.int .i64) (.pair (.slc (.int .u8)) (.pair .bool .unit))))), .ro (.int .i64)], [((.slc (.int .i64)), (.own .ro)), ((.int .i64), .ro)], fun x => f52 x.1 x.2.1 x.2.2.1⟩
theorem f52_m (x : ArgT [.ro (.int .i64), .ro (.slc (.pair (.int .i64) (.pair (.int .i64) (.pair (.slc (.int .u8)) (.pair .bool .unit))))), .ro (.int .i64)]) : codeS f52_fx f52_code (start [.ro (.int .i64), .ro (.slc (.pair (.int .i64) (.pair (.int .i64) (.pair (.slc (.int .u8)) (.pair .bool .unit))))), .ro (.int .i64)] [] x 70) (finK env [.tmp 6, .tmp 7] [.ro (.int .i64), .ro (.slc (.pair (.int .i64) (.pair (.int .i64) (.pair (.slc (.int .u8)) (.pair .bool .unit))))), .ro (.int .i64)] [((.slc (.int .i64)), (.own .ro)), ((.int .i64), .ro)]) = f52_k x.1 x.2.1 x.2.2.1 (fun r => some (r, [])) := by kernel_rfl
theorem f52_n {R : Type} (a0 : Int) (a1 : List (Int × (Int × (List Int × (Bool × Unit))))) (a2 : Int) (k : (List Int × Int × Unit) × (Unit) → Option R) : f52_k a0 a1 a2 k = (f52 a0 a1 a2).bind k := by
  simp only [f52, f52_k, cond_bind, ite_bind, bind_bind, some_bind, none_bind, elim_bind]
theorem f52_f : FnOk Try.prog 52 := ⟨Try.f52, Try.func52, by kernel_rfl, by kernel_rfl⟩
theorem f52_ok : SmOk Try.prog 52 f52_sm :=
  sum_of (c := f52_fx) (fn := Try.f52) (code := f52_code) (sm := f52_sm) mixed (env_ok env_envB) (TabsOk.all ⟨⟨f59_ok, f59_f⟩, ⟨f97_ok, f97_f⟩, ⟨f109_ok, f109_f⟩, ⟨f102_ok, f102_f⟩, ⟨f31_ok, f31_f⟩, trivial⟩) Try.func52 (by kernel_rfl)
   ((LoopsOk.of (l := [f52_l7_b]) (by kernel_rfl) ⟨node_is (by kernel_rfl) f52_l7_ok, trivial⟩))
   ((TailsOk.of (l := [((tails f52_code).getD 0 .skip), ((tails f52_code).getD 1 .skip), ((tails f52_code).getD 2 .skip), ((tails f52_code).getD 3 .skip), ((tails f52_code).getD 4 .skip), ((tails f52_code).getD 5 .skip), ((tails f52_code).getD 6 .skip), ((tails f52_code).getD 7 .skip), ((tails f52_code).getD 8 .skip), ((tails f52_code).getD 9 .skip), ((tails f52_code).getD 10 .skip), ((tails f52_code).getD 11 .skip), ((tails f52_code).getD 12 .skip), ((tails f52_code).getD 13 .skip), f52_t12_b, ((tails f52_code).getD 15 .skip), ((tails f52_code).getD 16 .skip)]) (by kernel_rfl) ⟨node_no (by kernel_rfl), node_no (by kernel_rfl), node_no (by kernel_rfl), node_no (by kernel_rfl), node_no (by kernel_rfl), node_no (by kernel_rfl), node_no (by kernel_rfl), node_no (by kernel_rfl), node_no (by kernel_rfl), node_no (by kernel_rfl), node_no (by kernel_rfl), node_no (by kernel_rfl), node_no (by kernel_rfl), node_no (by kernel_rfl), node_is (by kernel_rfl) f52_t12_ok, node_no (by kernel_rfl), node_no (by kernel_rfl), trivial⟩))
   (fun ks x hl => by
    have hk : ks = [] := List.length_eq_zero_iff.1 hl
    subst hk
    exact (f52_m x).trans (f52_n _ _ _ _))
/-! bakelite/bakelaw2.ImageTracks -/
noncomputable def f9_code : Code := (Try.f9.body).getD .skip
noncomputable def f9_l12_sk : SkS := ⟨52, [(1, .con (.int .i64)), (0, .ptr 32 []), (2, .ref 304 []), (0, .con (.int .i64)), (1, .con (.int .i64)), (0, .ref 159 []), (25, .con (.int .i64)), (0, .con (.int .i64)), (15, .con (.slc (.slc (.int .u8)))), (0, .con (.int .i64)), (0, .con (.int .i64))], [(32, ⟨some 24, (.pair (.int .i64) (.pair (.int .i64) (.pair (.slc (.slc (.int .u8))) .unit))), .ro⟩), (159, ⟨none, (.slc (.pair (.int .i64) (.pair (.int .i64) (.pair (.slc (.int .u8)) (.pair .bool .unit))))), (.own .ro)⟩), (304, ⟨none, (.slc (.slc (.int .i64))), (.own .ro)⟩)]⟩
noncomputable def f9_l12_o0 : SkS := ⟨70, [(1, .con (.int .i64)), (0, .ptr 32 []), (2, .ref 304 []), (0, .con (.int .i64)), (1, .con (.int .i64)), (0, .ref 159 []), (25, .con (.int .i64)), (0, .con (.int .i64))], [(32, ⟨some 24, (.pair (.int .i64) (.pair (.int .i64) (.pair (.slc (.slc (.int .u8))) .unit))), .ro⟩), (159, ⟨none, (.slc (.pair (.int .i64) (.pair (.int .i64) (.pair (.slc (.int .u8)) (.pair .bool .unit))))), (.own .ro)⟩), (304, ⟨none, (.slc (.slc (.int .i64))), (.own .ro)⟩)]⟩
noncomputable def f9_l12_outs : List Way := [⟨(.exit 2), [], f9_l12_o0⟩]
abbrev f9_l12_C := (Int × Int × Int × Int × Int × List (List Int) × Int × (Int × (Int × (List (List Int) × Unit))) × List (List Int) × (Option Nat))
abbrev f9_l12_X := (Int × List (Int × (Int × (List Int × (Bool × Unit)))))
abbrev f9_l12_Y := (List (Int × (Int × (List Int × (Bool × Unit)))))
noncomputable def f9_l12_con (t : f9_l12_sk.T) : f9_l12_C := (t.1.1, t.1.2.1, t.1.2.2.1, t.1.2.2.2.1, t.1.2.2.2.2.1, t.1.2.2.2.2.2.1, t.1.2.2.2.2.2.2.1, t.2.1.1, t.2.2.2.1.1, t.2.1.2)
noncomputable def f9_l12_get (t : f9_l12_sk.T) : f9_l12_X := (t.1.2.2.2.2.2.2.2.1, t.2.2.1.1)
noncomputable def f9_l12_put (c : f9_l12_C) (x : f9_l12_X) : f9_l12_sk.T := ((c.1, (c.2.1, (c.2.2.1, (c.2.2.2.1, (c.2.2.2.2.1, (c.2.2.2.2.2.1, (c.2.2.2.2.2.2.1, (x.1, ())))))))), ((c.2.2.2.2.2.2.2.1, c.2.2.2.2.2.2.2.2.2), ((x.2, ()), ((c.2.2.2.2.2.2.2.2.1, ()), ()))))
theorem f9_l12_pg (t : f9_l12_sk.T) : f9_l12_put (f9_l12_con t) (f9_l12_get t) = t := by kernel_rfl
noncomputable def f9_l12_w0 (c : f9_l12_C) (y : List (Int × (Int × (List Int × (Bool × Unit))))) : f9_l12_o0.T := ((c.1, (c.2.1, (c.2.2.1, (c.2.2.2.1, (c.2.2.2.2.1, ()))))), ((c.2.2.2.2.2.2.2.1, c.2.2.2.2.2.2.2.2.2), ((y, ()), ((c.2.2.2.2.2.2.2.2.1, ()), ()))))
noncomputable def f9_l12_out (c : f9_l12_C) (y : f9_l12_Y) : OutV f9_l12_outs := (fun y => (.inl (f9_l12_w0 c y))) y
noncomputable def f9_l12_k {R : Type} (a0 : Int) (a1 : Int) (a2 : Int) (a3 : Int) (a4 : Int) (a5 : List (List Int)) (a6 : Int) (a7 : Int) (a8 : (Int × (Int × (List (List Int) × Unit)))) (a9 : List (Int × (Int × (List Int × (Bool × Unit))))) (a10 : List (List Int)) (kin : f9_l12_X → Option R) (k0 : List (Int × (Int × (List Int × (Bool × Unit)))) → Option R) : Option R :=
 (cond (decide (a7 < a6))
 (if (0 : Int) ≤ a7 ∧ a7 < ((List.length a5 : Nat) : Int) then (if (List.length a9 + 1) * 48 ≤ most ∧ 0 < 48 ∧ 0 < 4 then (let r6 : List (Int × (Int × (List Int × (Bool × Unit)))) := (a9 ++ [(a2, (a7, ((List.getD a5 (Int.toNat a7) ([] : List Int)), (false, ()))))])
  (let v7 : Int := (IntKind.i64.wrap (a7 + (1 : Int)))
  (kin (v7, r6)))) else none) else none)
 (k0 a9))
noncomputable def f9_l12_g (a0 : Int) (a1 : Int) (a2 : Int) (a3 : Int) (a4 : Int) (a5 : List (List Int)) (a6 : Int) (a8 : (Int × (Int × (List (List Int) × Unit)))) (a10 : List (List Int)) (x : f9_l12_X) : Option (f9_l12_X ⊕ f9_l12_Y) := f9_l12_k a0 a1 a2 a3 a4 a5 a6 x.1 a8 x.2 a10 (fun x => some (.inl x)) (fun y => some (.inr y))
noncomputable def f9_l12 (a0 : Int) (a1 : Int) (a2 : Int) (a3 : Int) (a4 : Int) (a5 : List (List Int)) (a6 : Int) (a8 : (Int × (Int × (List (List Int) × Unit)))) (a10 : List (List Int)) (x : f9_l12_X) : Option f9_l12_Y := loopO (f9_l12_g a0 a1 a2 a3 a4 a5 a6 a8 a10) x
noncomputable def f9_l12_nd : Node := { nils := [(9, 159, (.pair (.int .i64) (.pair (.int .i64) (.pair (.slc (.int .u8)) (.pair .bool .unit)))), .ro)], sk := f9_l12_sk, outs := f9_l12_outs, Y := f9_l12_Y, L := fun t => f9_l12 ((f9_l12_con t).1) ((f9_l12_con t).2.1) ((f9_l12_con t).2.2.1) ((f9_l12_con t).2.2.2.1) ((f9_l12_con t).2.2.2.2.1) ((f9_l12_con t).2.2.2.2.2.1) ((f9_l12_con t).2.2.2.2.2.2.1) ((f9_l12_con t).2.2.2.2.2.2.2.1) ((f9_l12_con t).2.2.2.2.2.2.2.2.1) (f9_l12_get t), out := fun t y => f9_l12_out (f9_l12_con t) y, disp := fun t y K => (fun y => K (.exit 2) (f9_l12_o0.fill (f9_l12_w0 (f9_l12_con t) y))) y }
noncomputable def f9_l8_sk : SkS := ⟨70, [(1, .con (.int .i64)), (0, .ptr 32 []), (2, .ref 304 []), (0, .con (.int .i64)), (28, .con (.int .i64)), (0, .con (.int .i64))], [(32, ⟨some 24, (.pair (.int .i64) (.pair (.int .i64) (.pair (.slc (.slc (.int .u8))) .unit))), .ro⟩), (304, ⟨none, (.slc (.slc (.int .i64))), (.own .ro)⟩)]⟩
noncomputable def f9_l8_o0 : SkS := ⟨102, [(4, .con .bool)], []⟩
noncomputable def f9_l8_o1 : SkS := ⟨100, [(2, .ptr 32 []), (2, .ref 304 []), (0, .con (.int .i64))], [(32, ⟨some 24, (.pair (.int .i64) (.pair (.int .i64) (.pair (.slc (.slc (.int .u8))) .unit))), .ro⟩), (304, ⟨none, (.slc (.slc (.int .i64))), (.own .ro)⟩)]⟩
noncomputable def f9_l8_outs : List Way := [⟨.ret, [], f9_l8_o0⟩, ⟨(.exit 0), [], f9_l8_o1⟩]
abbrev f9_l8_C := (Int × Int × Int × (Int × (Int × (List (List Int) × Unit))) × List (List Int) × (Option Nat))
abbrev f9_l8_X := Int
abbrev f9_l8_Y := (Bool) ⊕ (Unit)
noncomputable def f9_l8_con (t : f9_l8_sk.T) : f9_l8_C := (t.1.1, t.1.2.1, t.1.2.2.1, t.2.1.1, t.2.2.1.1, t.2.1.2)
noncomputable def f9_l8_get (t : f9_l8_sk.T) : f9_l8_X := t.1.2.2.2.1
noncomputable def f9_l8_put (c : f9_l8_C) (x : f9_l8_X) : f9_l8_sk.T := ((c.1, (c.2.1, (c.2.2.1, (x, ())))), ((c.2.2.2.1, c.2.2.2.2.2), ((c.2.2.2.2.1, ()), ())))
theorem f9_l8_pg (t : f9_l8_sk.T) : f9_l8_put (f9_l8_con t) (f9_l8_get t) = t := by kernel_rfl
noncomputable def f9_l8_w0 (c : f9_l8_C) (y : Bool) : f9_l8_o0.T := ((y, ()), ())
noncomputable def f9_l8_w1 (c : f9_l8_C) (y : Unit) : f9_l8_o1.T := ((c.2.1, ()), ((c.2.2.2.1, c.2.2.2.2.2), ((c.2.2.2.2.1, ()), ())))
noncomputable def f9_l8_out (c : f9_l8_C) (y : f9_l8_Y) : OutV f9_l8_outs := (Sum.elim (fun y => (.inl (f9_l8_w0 c y))) (fun y => (.inr (.inl (f9_l8_w1 c y))))) y
noncomputable def f9_l8_k {R : Type} (a0 : Int) (a1 : Int) (a2 : Int) (a3 : Int) (a4 : (Int × (Int × (List (List Int) × Unit)))) (a5 : List (List Int)) (kin : f9_l8_X → Option R) (k0 : Bool → Option R) (k1 : Unit → Option R) : Option R :=
 (cond (decide (a3 < a2))
 (let v3 : Int := (IntKind.i64.wrap (a3 * a4.2.1))
  (let v4 : Int := (IntKind.i64.wrap (a3 * a4.2.1))
  (let v5 : Int := (IntKind.i64.wrap (v4 + a4.2.1))
  (if (0 : Int) ≤ v3 ∧ v3 ≤ v5 ∧ v5 ≤ ((List.length a4.2.2.1 : Nat) : Int) then ((f9_l12 a0 a1 a3 a2 a3 (List.take ((Int.toNat v5) - (Int.toNat v3)) (List.drop (Int.toNat v3) a4.2.2.1)) ((List.length (List.take ((Int.toNat v5) - (Int.toNat v3)) (List.drop (Int.toNat v3) a4.2.2.1)) : Nat) : Int) a4 a5 ((0 : Int), [])).bind fun y8 =>
  ((f52 a3 y8 a0).bind fun r9 =>
  (cond (r9.1.2.1 != (0 : Int))
  (cond (a1 == r9.1.2.1)
   (k0 (((List.length a5 : Nat) : Int) == (0 : Int)))
   (k0 false))
  (cond (decide (a3 ≥ ((List.length a5 : Nat) : Int)))
   (k0 false)
   (if (0 : Int) ≤ a3 ∧ a3 < ((List.length a5 : Nat) : Int) then ((f33 (List.getD a5 (Int.toNat a3) ([] : List Int)) r9.1.1).bind fun r10 =>
    (cond (!r10.1.1)
    (k0 false)
    (let v11 : Int := (IntKind.i64.wrap (a3 + (1 : Int)))
     (kin v11)))) else none))))) else none))))
 (k1 ()))
noncomputable def f9_l8_g (a0 : Int) (a1 : Int) (a2 : Int) (a4 : (Int × (Int × (List (List Int) × Unit)))) (a5 : List (List Int)) (x : f9_l8_X) : Option (f9_l8_X ⊕ f9_l8_Y) := f9_l8_k a0 a1 a2 x a4 a5 (fun x => some (.inl x)) (fun y => some (.inr (.inl y))) (fun y => some (.inr (.inr y)))
noncomputable def f9_l8 (a0 : Int) (a1 : Int) (a2 : Int) (a4 : (Int × (Int × (List (List Int) × Unit)))) (a5 : List (List Int)) (x : f9_l8_X) : Option f9_l8_Y := loopO (f9_l8_g a0 a1 a2 a4 a5) x
noncomputable def f9_l8_nd : Node := { nils := [], sk := f9_l8_sk, outs := f9_l8_outs, Y := f9_l8_Y, L := fun t => f9_l8 ((f9_l8_con t).1) ((f9_l8_con t).2.1) ((f9_l8_con t).2.2.1) ((f9_l8_con t).2.2.2.1) ((f9_l8_con t).2.2.2.2.1) (f9_l8_get t), out := fun t y => f9_l8_out (f9_l8_con t) y, disp := fun t y K => (Sum.elim (fun y => K .ret (f9_l8_o0.fill (f9_l8_w0 (f9_l8_con t) y))) (fun y => K (.exit 0) (f9_l8_o1.fill (f9_l8_w1 (f9_l8_con t) y)))) y }
noncomputable def f9_fx : Fx := { E := env, T := [(15, f15_sm), (51, f51_sm), (17, f17_sm), (52, f52_sm), (33, f33_sm)], H := [], O := [], nodes := [((true, 12), f9_l12_nd), ((true, 8), f9_l8_nd)] }
noncomputable def f9_l12_b : Code := (loops f9_code).getD 1 .skip
theorem f9_l12_r (c : f9_l12_C) (x : f9_l12_X) : roundS f9_fx f9_l12_b f9_l12_nd (f9_l12_put c x) = f9_l12_k c.1 c.2.1 c.2.2.1 c.2.2.2.1 c.2.2.2.2.1 c.2.2.2.2.2.1 c.2.2.2.2.2.2.1 x.1 c.2.2.2.2.2.2.2.1 x.2 c.2.2.2.2.2.2.2.2.1 (fun x => some (.inl (f9_l12_put c x))) (fun y => some (.inr (.inl (f9_l12_w0 c y)))) := by kernel_rfl
theorem f9_l12_n {R : Type} (a0 : Int) (a1 : Int) (a2 : Int) (a3 : Int) (a4 : Int) (a5 : List (List Int)) (a6 : Int) (a7 : Int) (a8 : (Int × (Int × (List (List Int) × Unit)))) (a9 : List (Int × (Int × (List Int × (Bool × Unit))))) (a10 : List (List Int)) (kin : f9_l12_X → Option R) (k0 : List (Int × (Int × (List Int × (Bool × Unit)))) → Option R) : f9_l12_k a0 a1 a2 a3 a4 a5 a6 a7 a8 a9 a10 kin k0 = (f9_l12_g a0 a1 a2 a3 a4 a5 a6 a8 a10 (a7, a9)).bind (Sum.elim kin k0) := by
  simp only [f9_l12_g, f9_l12_k, cond_bind, ite_bind, bind_bind, some_bind, none_bind, elim_bind, Sum.elim_inl, Sum.elim_inr]
theorem f9_l12_ok : LoopOk f9_fx f9_l12_b f9_l12_nd := loop_ok f9_l12_con f9_l12_get f9_l12_put f9_l12_pg (fun c => f9_l12_g c.1 c.2.1 c.2.2.1 c.2.2.2.1 c.2.2.2.2.1 c.2.2.2.2.2.1 c.2.2.2.2.2.2.1 c.2.2.2.2.2.2.2.1 c.2.2.2.2.2.2.2.2.1) f9_l12_out (fun t y => rfl) (fun t y K => rfl) (fun c x => by
  refine (f9_l12_r c x).trans ((f9_l12_n _ _ _ _ _ _ _ _ _ _ _ _ _).trans ?_)
  first
  | rfl
  | congr 1
    funext s
    rcases s with s | s <;> rfl) (fun t => rfl)
noncomputable def f9_l8_b : Code := (loops f9_code).getD 0 .skip
theorem f9_l8_r (c : f9_l8_C) (x : f9_l8_X) : roundS f9_fx f9_l8_b f9_l8_nd (f9_l8_put c x) = f9_l8_k c.1 c.2.1 c.2.2.1 x c.2.2.2.1 c.2.2.2.2.1 (fun x => some (.inl (f9_l8_put c x))) (fun y => some (.inr (.inl (f9_l8_w0 c y)))) (fun y => some (.inr (.inr (.inl (f9_l8_w1 c y))))) := by kernel_rfl
theorem f9_l8_n {R : Type} (a0 : Int) (a1 : Int) (a2 : Int) (a3 : Int) (a4 : (Int × (Int × (List (List Int) × Unit)))) (a5 : List (List Int)) (kin : f9_l8_X → Option R) (k0 : Bool → Option R) (k1 : Unit → Option R) : f9_l8_k a0 a1 a2 a3 a4 a5 kin k0 k1 = (f9_l8_g a0 a1 a2 a4 a5 a3).bind (Sum.elim kin (Sum.elim k0 k1)) := by
  simp only [f9_l8_g, f9_l8_k, cond_bind, ite_bind, bind_bind, some_bind, none_bind, elim_bind, Sum.elim_inl, Sum.elim_inr]
theorem f9_l8_ok : LoopOk f9_fx f9_l8_b f9_l8_nd := loop_ok f9_l8_con f9_l8_get f9_l8_put f9_l8_pg (fun c => f9_l8_g c.1 c.2.1 c.2.2.1 c.2.2.2.1 c.2.2.2.2.1) f9_l8_out (fun t y => rfl) (by intro R t y K; rcases y with y | y <;> rfl) (fun c x => by
  refine (f9_l8_r c x).trans ((f9_l8_n _ _ _ _ _ _ _ _ _).trans ?_)
  first
  | rfl
  | congr 1
    funext s
    rcases s with s | s | s <;> rfl) (fun t => rfl)
noncomputable def f9_k {R : Type} (a0 : (Int × (Int × (List (List Int) × Unit)))) (a1 : Int) (k : (Bool × Unit) × (Unit) → Option R) : Option R :=
 ((f15).bind fun r0 =>
 (cond (!r0.1.1)
 (k ((false, ()), ()))
 ((f51 a0 a1).bind fun r1 =>
  ((f17 a0).bind fun r2 =>
  (cond (r2.1.1 != (0 : Int))
  (cond (r1.1.2.1 == r2.1.1)
   (k (((((List.length r1.1.1 : Nat) : Int) == (0 : Int)), ()), ()))
   (k ((false, ()), ())))
  ((f9_l8 a1 r1.1.2.1 a0.1 a0 r1.1.1 (0 : Int)).bind fun y12 =>
   ((Sum.elim (fun z13 =>
   (k ((z13, ()), ())))
   (fun z14 =>
   (cond (r1.1.2.1 == (0 : Int))
    (k (((((List.length r1.1.1 : Nat) : Int) == a0.1), ()), ()))
    (k ((false, ()), ()))))) y12)))))))
noncomputable def f9 (a0 : (Int × (Int × (List (List Int) × Unit)))) (a1 : Int) : Option ((Bool × Unit) × (Unit)) := f9_k a0 a1 some
noncomputable def f9_sm : Sm := ⟨[.ro (.pair (.int .i64) (.pair (.int .i64) (.pair (.slc (.slc (.int .u8))) .unit))), .ro (.int .i64)], [(.bool, .ro)], fun x => f9 x.1 x.2.1⟩
theorem f9_m (x : ArgT [.ro (.pair (.int .i64) (.pair (.int .i64) (.pair (.slc (.slc (.int .u8))) .unit))), .ro (.int .i64)]) : codeS f9_fx f9_code (start [.ro (.pair (.int .i64) (.pair (.int .i64) (.pair (.slc (.slc (.int .u8))) .unit))), .ro (.int .i64)] [] x 107) (finK env [.tmp 4] [.ro (.pair (.int .i64) (.pair (.int .i64) (.pair (.slc (.slc (.int .u8))) .unit))), .ro (.int .i64)] [(.bool, .ro)]) = f9_k x.1 x.2.1 (fun r => some (r, [])) := by kernel_rfl
theorem f9_n {R : Type} (a0 : (Int × (Int × (List (List Int) × Unit)))) (a1 : Int) (k : (Bool × Unit) × (Unit) → Option R) : f9_k a0 a1 k = (f9 a0 a1).bind k := by
  simp only [f9, f9_k, cond_bind, ite_bind, bind_bind, some_bind, none_bind, elim_bind]
theorem f9_f : FnOk Try.prog 9 := ⟨Try.f9, Try.func9, by kernel_rfl, by kernel_rfl⟩
theorem f9_ok : SmOk Try.prog 9 f9_sm :=
  sum_of (c := f9_fx) (fn := Try.f9) (code := f9_code) (sm := f9_sm) mixed (env_ok env_envB) (TabsOk.all ⟨⟨f15_ok, f15_f⟩, ⟨f51_ok, f51_f⟩, ⟨f17_ok, f17_f⟩, ⟨f52_ok, f52_f⟩, ⟨f33_ok, f33_f⟩, trivial⟩) Try.func9 (by kernel_rfl)
   ((LoopsOk.of (l := [f9_l8_b, f9_l12_b]) (by kernel_rfl) ⟨node_is (by kernel_rfl) f9_l8_ok, node_is (by kernel_rfl) f9_l12_ok, trivial⟩))
   (no_tails (by kernel_rfl))
   (fun ks x hl => by
    have hk : ks = [] := List.length_eq_zero_iff.1 hl
    subst hk
    exact (f9_m x).trans (f9_n _ _ _))
end Go.Proofs.Ytlgbhaigpecdoaa.V
