/- Printed. -/
import Derived.Test.YtlgbhaigpecdoaaVEok
set_option linter.unusedVariables false
set_option linter.unusedSimpArgs false
set_option maxRecDepth 100000
namespace Go.Proofs.Ytlgbhaigpecdoaa.V
open Go
/-! bakelite/image.New -/
noncomputable def f21_code : Code := (Try.f21.body).getD .skip
noncomputable def f21_l5_sk : SkS := ⟨[.undef, .undef, .undef, .undef, .ptr 64 [], .undef, .ptr 96 [], .undef, .undef, .undef, .undef, .undef, .undef, .undef, .undef, .undef, .undef, .undef, .undef, .undef, .undef, .undef, .undef, .undef, .undef, .undef, .undef, .con (.int .i64), .con (.int .i64), .undef, .undef, .undef, .undef, .undef, .undef, .undef, .undef, .undef], [(64, ⟨some 24, (.pair (.int .i64) (.pair (.int .i64) (.pair (.slc (.slc (.int .u8))) .unit))), (.pair .ro (.pair .ro (.pair (.own .ro) .ro)))⟩), (96, ⟨some 24, (.pair (.int .i64) (.pair (.int .i64) (.pair (.slc (.slc (.int .u8))) .unit))), (.pair .ro (.pair .ro (.pair (.own .ro) .ro)))⟩)]⟩
noncomputable def f21_l5_o0 : SkS := ⟨[.undef, .undef, .undef, .undef, .ptr 64 [], .undef, .ptr 96 [], .undef, .undef, .undef, .undef, .undef, .undef, .undef, .undef, .undef, .undef, .undef, .undef, .undef, .undef, .undef, .undef, .undef, .undef, .undef, .undef, .undef, .undef, .undef, .undef, .undef, .undef, .undef, .undef, .undef, .undef, .undef], [(64, ⟨some 24, (.pair (.int .i64) (.pair (.int .i64) (.pair (.slc (.slc (.int .u8))) .unit))), (.pair .ro (.pair .ro (.pair (.own .ro) .ro)))⟩), (96, ⟨some 24, (.pair (.int .i64) (.pair (.int .i64) (.pair (.slc (.slc (.int .u8))) .unit))), (.pair .ro (.pair .ro (.pair (.own .ro) .ro)))⟩)]⟩
noncomputable def f21_l5_outs : List Way := [⟨(.exit 0), [], f21_l5_o0⟩]
abbrev f21_l5_C := (Int × (Int × (Int × (List (List Int) × Unit))) × (Option Nat) × (Option Nat))
abbrev f21_l5_X := (Int × (Int × (Int × (List (List Int) × Unit))))
abbrev f21_l5_Y := ((Int × (Int × (List (List Int) × Unit))))
noncomputable def f21_l5_con (t : f21_l5_sk.T) : f21_l5_C := (t.1.2.2.2.2.2.2.2.2.2.2.2.2.2.2.2.2.2.2.2.2.2.2.2.2.2.2.2.1, t.2.1.1, t.2.1.2, t.2.2.1.2)
noncomputable def f21_l5_get (t : f21_l5_sk.T) : f21_l5_X := (t.1.2.2.2.2.2.2.2.2.2.2.2.2.2.2.2.2.2.2.2.2.2.2.2.2.2.2.2.2.1, t.2.2.1.1)
noncomputable def f21_l5_put (c : f21_l5_C) (x : f21_l5_X) : f21_l5_sk.T := (((), ((), ((), ((), ((), ((), ((), ((), ((), ((), ((), ((), ((), ((), ((), ((), ((), ((), ((), ((), ((), ((), ((), ((), ((), ((), ((), (c.1, (x.1, ((), ((), ((), ((), ((), ((), ((), ((), ((), ())))))))))))))))))))))))))))))))))))))), ((c.2.1, c.2.2.1), ((x.2, c.2.2.2), ())))
theorem f21_l5_pg (t : f21_l5_sk.T) : f21_l5_put (f21_l5_con t) (f21_l5_get t) = t := by kernel_rfl
noncomputable def f21_l5_w0 (c : f21_l5_C) (y : (Int × (Int × (List (List Int) × Unit)))) : f21_l5_o0.T := (((), ((), ((), ((), ((), ((), ((), ((), ((), ((), ((), ((), ((), ((), ((), ((), ((), ((), ((), ((), ((), ((), ((), ((), ((), ((), ((), ((), ((), ((), ((), ((), ((), ((), ((), ((), ((), ((), ())))))))))))))))))))))))))))))))))))))), ((c.2.1, c.2.2.1), ((y, c.2.2.2), ())))
noncomputable def f21_l5_out (c : f21_l5_C) (y : f21_l5_Y) : OutV f21_l5_outs := (fun y => (.inl (f21_l5_w0 c y))) y
noncomputable def f21_l5_k {R : Type} (a0 : Int) (a1 : Int) (a2 : (Int × (Int × (List (List Int) × Unit)))) (a3 : (Int × (Int × (List (List Int) × Unit)))) (kin : f21_l5_X → Option R) (k0 : (Int × (Int × (List (List Int) × Unit))) → Option R) : Option R :=
 (cond (decide (a1 < a0))
 (if (List.length a3.2.2.1 + 1) * 24 ≤ most ∧ 0 < 24 ∧ 0 < 1 then (let r1 : List (List Int) := (a3.2.2.1 ++ [(List.replicate 128 (0 : Int))])
  (let v2 : Int := (IntKind.i64.wrap (a1 + (1 : Int)))
  (kin (v2, (a3.1, (a3.2.1, (r1, a3.2.2.2))))))) else none)
 (k0 a3))
noncomputable def f21_l5_g (a0 : Int) (a2 : (Int × (Int × (List (List Int) × Unit)))) (x : f21_l5_X) : Option (f21_l5_X ⊕ f21_l5_Y) := f21_l5_k a0 x.1 a2 x.2 (fun x => some (.inl x)) (fun y => some (.inr y))
noncomputable def f21_l5 (a0 : Int) (a2 : (Int × (Int × (List (List Int) × Unit)))) (x : f21_l5_X) : Option f21_l5_Y := loopO (f21_l5_g a0 a2) x
noncomputable def f21_l5_nd : Node := { nils := [], sk := f21_l5_sk, outs := f21_l5_outs, Y := f21_l5_Y, L := fun t => f21_l5 ((f21_l5_con t).1) ((f21_l5_con t).2.1) (f21_l5_get t), out := fun t y => f21_l5_out (f21_l5_con t) y, disp := fun t y K => (fun y => K (.exit 0) (f21_l5_o0.fill (f21_l5_w0 (f21_l5_con t) y))) y }
noncomputable def f21_fx : Fx := { E := env, T := [], H := [], nodes := [((true, 5), f21_l5_nd)] }
noncomputable def f21_l5_b : Code := (loops f21_code).getD 0 .skip
theorem f21_l5_r (c : f21_l5_C) (x : f21_l5_X) : roundS f21_fx f21_l5_b f21_l5_nd (f21_l5_put c x) = f21_l5_k c.1 x.1 c.2.1 x.2 (fun x => some (.inl (f21_l5_put c x))) (fun y => some (.inr (.inl (f21_l5_w0 c y)))) := by kernel_rfl
theorem f21_l5_n {R : Type} (a0 : Int) (a1 : Int) (a2 : (Int × (Int × (List (List Int) × Unit)))) (a3 : (Int × (Int × (List (List Int) × Unit)))) (kin : f21_l5_X → Option R) (k0 : (Int × (Int × (List (List Int) × Unit))) → Option R) : f21_l5_k a0 a1 a2 a3 kin k0 = (f21_l5_g a0 a2 (a1, a3)).bind (Sum.elim kin k0) := by
  simp only [f21_l5_g, f21_l5_k, cond_bind, ite_bind, bind_bind, some_bind, none_bind, elim_bind, Sum.elim_inl, Sum.elim_inr]
theorem f21_l5_ok : LoopOk f21_fx f21_l5_b f21_l5_nd := loop_ok f21_l5_con f21_l5_get f21_l5_put f21_l5_pg (fun c => f21_l5_g c.1 c.2.1) f21_l5_out (fun t y => rfl) (fun t y K => rfl) (fun c x => by
  refine (f21_l5_r c x).trans ((f21_l5_n _ _ _ _ _ _).trans ?_)
  first
  | rfl
  | congr 1
    funext s
    rcases s with s | s <;> rfl) (fun t => rfl)
noncomputable def f21_k {R : Type} (a0 : Int) (a1 : Int) (k : ((Int × (Int × (List (List Int) × Unit))) × Int × Unit) × (Unit) → Option R) : Option R :=
 (cond (decide (a0 < (1 : Int)))
 (k ((((0 : Int), ((0 : Int), ([], ()))), ((1 : Int), ())), ()))
 (cond (decide (a0 > (20 : Int)))
  (k ((((0 : Int), ((0 : Int), ([], ()))), ((1 : Int), ())), ()))
  (cond (decide (a1 < (1 : Int)))
   (k ((((0 : Int), ((0 : Int), ([], ()))), ((1 : Int), ())), ()))
   (cond (decide (a1 > (12 : Int)))
    (k ((((0 : Int), ((0 : Int), ([], ()))), ((1 : Int), ())), ()))
    (let v0 : Int := (IntKind.i64.wrap (a0 * a1))
     ((f21_l5 v0 ((0 : Int), ((0 : Int), (([] : List (List Int)), ()))) ((0 : Int), (a0, (a1, ([], ()))))).bind fun y3 =>
     (k ((y3, ((0 : Int), ())), ()))))))))
noncomputable def f21 (a0 : Int) (a1 : Int) : Option (((Int × (Int × (List (List Int) × Unit))) × Int × Unit) × (Unit)) := f21_k a0 a1 some
noncomputable def f21_sm : Sm := ⟨[.ro (.int .i64), .ro (.int .i64)], [((.pair (.int .i64) (.pair (.int .i64) (.pair (.slc (.slc (.int .u8))) .unit))), .ro), ((.int .i64), .ro)], fun x => f21 x.1 x.2.1⟩
theorem f21_m (x : ArgT [.ro (.int .i64), .ro (.int .i64)]) : codeS f21_fx f21_code (start [.ro (.int .i64), .ro (.int .i64)] [] x 38) (finK env [.cell 4 24, .tmp 5] [.ro (.int .i64), .ro (.int .i64)] [((.pair (.int .i64) (.pair (.int .i64) (.pair (.slc (.slc (.int .u8))) .unit))), .ro), ((.int .i64), .ro)]) = f21_k x.1 x.2.1 (fun r => some (r, [])) := by kernel_rfl
theorem f21_n {R : Type} (a0 : Int) (a1 : Int) (k : ((Int × (Int × (List (List Int) × Unit))) × Int × Unit) × (Unit) → Option R) : f21_k a0 a1 k = (f21 a0 a1).bind k := by
  simp only [f21, f21_k, cond_bind, ite_bind, bind_bind, some_bind, none_bind, elim_bind]
theorem f21_f : FnOk Try.prog 21 := ⟨Try.f21, Try.func21, by kernel_rfl, by kernel_rfl⟩
theorem f21_ok : SmOk Try.prog 21 f21_sm :=
  sum_of (c := f21_fx) (fn := Try.f21) (code := f21_code) (sm := f21_sm) mixed (env_ok env_envB) (TabsOk.all trivial) Try.func21 (by kernel_rfl)
   ((LoopsOk.of (l := [f21_l5_b]) (by kernel_rfl) ⟨node_is (by kernel_rfl) f21_l5_ok, trivial⟩))
   (no_tails (by kernel_rfl))
   (fun ks x hl => by
    have hk : ks = [] := List.length_eq_zero_iff.1 hl
    subst hk
    exact (f21_m x).trans (f21_n _ _ _))
/-! bakelite/image.Check -/
noncomputable def f16_code : Code := (Try.f16.body).getD .skip
noncomputable def f16_l6_sk : SkS := ⟨[.undef, .undef, .undef, .undef, .undef, .undef, .undef, .undef, .undef, .undef, .undef, .undef, .undef, .undef, .undef, .undef, .undef, .undef, .undef, .undef, .undef, .undef, .undef, .undef, .undef, .undef, .undef, .undef, .undef, .undef, .undef, .undef, .undef, .con (.slc (.slc (.int .u8))), .con (.int .i64), .con (.int .i64), .undef, .undef, .undef, .undef, .undef, .undef, .undef], []⟩
noncomputable def f16_l6_o0 : SkS := ⟨[.undef, .undef, .con (.int .i64), .undef, .undef, .undef, .undef, .undef, .undef, .undef, .undef, .undef, .undef, .undef, .undef, .undef, .undef, .undef, .undef, .undef, .undef, .undef, .undef, .undef, .undef, .undef, .undef, .undef, .undef, .undef, .undef, .undef, .undef, .undef, .undef, .undef, .undef, .undef, .undef, .undef, .undef, .undef, .undef], []⟩
noncomputable def f16_l6_o1 : SkS := ⟨[.undef, .undef, .undef, .undef, .undef, .undef, .undef, .undef, .undef, .undef, .undef, .undef, .undef, .undef, .undef, .undef, .undef, .undef, .undef, .undef, .undef, .undef, .undef, .undef, .undef, .undef, .undef, .undef, .undef, .undef, .undef, .undef, .undef, .undef, .undef, .undef, .undef, .undef, .undef, .undef, .undef, .undef, .undef], []⟩
noncomputable def f16_l6_outs : List Way := [⟨.ret, [], f16_l6_o0⟩, ⟨(.exit 0), [], f16_l6_o1⟩]
abbrev f16_l6_C := (List (List Int) × Int)
abbrev f16_l6_X := Int
abbrev f16_l6_Y := (Unit) ⊕ (Unit)
noncomputable def f16_l6_con (t : f16_l6_sk.T) : f16_l6_C := (t.1.2.2.2.2.2.2.2.2.2.2.2.2.2.2.2.2.2.2.2.2.2.2.2.2.2.2.2.2.2.2.2.2.2.1, t.1.2.2.2.2.2.2.2.2.2.2.2.2.2.2.2.2.2.2.2.2.2.2.2.2.2.2.2.2.2.2.2.2.2.2.1)
noncomputable def f16_l6_get (t : f16_l6_sk.T) : f16_l6_X := t.1.2.2.2.2.2.2.2.2.2.2.2.2.2.2.2.2.2.2.2.2.2.2.2.2.2.2.2.2.2.2.2.2.2.2.2.1
noncomputable def f16_l6_put (c : f16_l6_C) (x : f16_l6_X) : f16_l6_sk.T := (((), ((), ((), ((), ((), ((), ((), ((), ((), ((), ((), ((), ((), ((), ((), ((), ((), ((), ((), ((), ((), ((), ((), ((), ((), ((), ((), ((), ((), ((), ((), ((), ((), (c.1, (c.2, (x, ((), ((), ((), ((), ((), ((), ((), ()))))))))))))))))))))))))))))))))))))))))))), ())
theorem f16_l6_pg (t : f16_l6_sk.T) : f16_l6_put (f16_l6_con t) (f16_l6_get t) = t := by kernel_rfl
noncomputable def f16_l6_w0 (c : f16_l6_C) (y : Unit) : f16_l6_o0.T := (((), ((), ((3 : Int), ((), ((), ((), ((), ((), ((), ((), ((), ((), ((), ((), ((), ((), ((), ((), ((), ((), ((), ((), ((), ((), ((), ((), ((), ((), ((), ((), ((), ((), ((), ((), ((), ((), ((), ((), ((), ((), ((), ((), ((), ()))))))))))))))))))))))))))))))))))))))))))), ())
noncomputable def f16_l6_w1 (c : f16_l6_C) (y : Unit) : f16_l6_o1.T := (((), ((), ((), ((), ((), ((), ((), ((), ((), ((), ((), ((), ((), ((), ((), ((), ((), ((), ((), ((), ((), ((), ((), ((), ((), ((), ((), ((), ((), ((), ((), ((), ((), ((), ((), ((), ((), ((), ((), ((), ((), ((), ((), ()))))))))))))))))))))))))))))))))))))))))))), ())
noncomputable def f16_l6_out (c : f16_l6_C) (y : f16_l6_Y) : OutV f16_l6_outs := (Sum.elim (fun y => (.inl (f16_l6_w0 c y))) (fun y => (.inr (.inl (f16_l6_w1 c y))))) y
noncomputable def f16_l6_k {R : Type} (a0 : List (List Int)) (a1 : Int) (a2 : Int) (kin : f16_l6_X → Option R) (k0 : Unit → Option R) (k1 : Unit → Option R) : Option R :=
 (cond (decide (a2 < a1))
 (if (0 : Int) ≤ a2 ∧ a2 < ((List.length a0 : Nat) : Int) then (cond (((List.length (List.getD a0 (Int.toNat a2) ([] : List Int)) : Nat) : Int) != (128 : Int))
  (k0 ())
  (let v1 : Int := (IntKind.i64.wrap (a2 + (1 : Int)))
   (kin v1))) else none)
 (k1 ()))
noncomputable def f16_l6_g (a0 : List (List Int)) (a1 : Int) (x : f16_l6_X) : Option (f16_l6_X ⊕ f16_l6_Y) := f16_l6_k a0 a1 x (fun x => some (.inl x)) (fun y => some (.inr (.inl y))) (fun y => some (.inr (.inr y)))
noncomputable def f16_l6 (a0 : List (List Int)) (a1 : Int) (x : f16_l6_X) : Option f16_l6_Y := loopO (f16_l6_g a0 a1) x
noncomputable def f16_l6_nd : Node := { nils := [], sk := f16_l6_sk, outs := f16_l6_outs, Y := f16_l6_Y, L := fun t => f16_l6 ((f16_l6_con t).1) ((f16_l6_con t).2) (f16_l6_get t), out := fun t y => f16_l6_out (f16_l6_con t) y, disp := fun t y K => (Sum.elim (fun y => K .ret (f16_l6_o0.fill (f16_l6_w0 (f16_l6_con t) y))) (fun y => K (.exit 0) (f16_l6_o1.fill (f16_l6_w1 (f16_l6_con t) y)))) y }
noncomputable def f16_fx : Fx := { E := env, T := [], H := [], nodes := [((true, 6), f16_l6_nd)] }
noncomputable def f16_l6_b : Code := (loops f16_code).getD 0 .skip
theorem f16_l6_r (c : f16_l6_C) (x : f16_l6_X) : roundS f16_fx f16_l6_b f16_l6_nd (f16_l6_put c x) = f16_l6_k c.1 c.2 x (fun x => some (.inl (f16_l6_put c x))) (fun y => some (.inr (.inl (f16_l6_w0 c y)))) (fun y => some (.inr (.inr (.inl (f16_l6_w1 c y))))) := by kernel_rfl
theorem f16_l6_n {R : Type} (a0 : List (List Int)) (a1 : Int) (a2 : Int) (kin : f16_l6_X → Option R) (k0 : Unit → Option R) (k1 : Unit → Option R) : f16_l6_k a0 a1 a2 kin k0 k1 = (f16_l6_g a0 a1 a2).bind (Sum.elim kin (Sum.elim k0 k1)) := by
  simp only [f16_l6_g, f16_l6_k, cond_bind, ite_bind, bind_bind, some_bind, none_bind, elim_bind, Sum.elim_inl, Sum.elim_inr]
theorem f16_l6_ok : LoopOk f16_fx f16_l6_b f16_l6_nd := loop_ok f16_l6_con f16_l6_get f16_l6_put f16_l6_pg (fun c => f16_l6_g c.1 c.2) f16_l6_out (fun t y => rfl) (by intro R t y K; rcases y with y | y <;> rfl) (fun c x => by
  refine (f16_l6_r c x).trans ((f16_l6_n _ _ _ _ _ _).trans ?_)
  first
  | rfl
  | congr 1
    funext s
    rcases s with s | s | s <;> rfl) (fun t => rfl)
noncomputable def f16_k {R : Type} (a0 : (Int × (Int × (List (List Int) × Unit)))) (k : (Int × Unit) × (Unit) → Option R) : Option R :=
 (cond (decide (a0.1 < (1 : Int)))
 (k (((1 : Int), ()), ()))
 (cond (decide (a0.1 > (20 : Int)))
  (k (((1 : Int), ()), ()))
  (cond (decide (a0.2.1 < (1 : Int)))
   (k (((1 : Int), ()), ()))
   (cond (decide (a0.2.1 > (12 : Int)))
    (k (((1 : Int), ()), ()))
    (let v0 : Int := (IntKind.i64.wrap (a0.1 * a0.2.1))
     (cond (((List.length a0.2.2.1 : Nat) : Int) != v0)
     (k (((3 : Int), ()), ()))
     ((f16_l6 a0.2.2.1 ((List.length a0.2.2.1 : Nat) : Int) (0 : Int)).bind fun y2 =>
      ((Sum.elim (fun z3 =>
      (k (((3 : Int), ()), ())))
      (fun z4 =>
      (k (((0 : Int), ()), ())))) y2))))))))
noncomputable def f16 (a0 : (Int × (Int × (List (List Int) × Unit)))) : Option ((Int × Unit) × (Unit)) := f16_k a0 some
noncomputable def f16_sm : Sm := ⟨[.ro (.pair (.int .i64) (.pair (.int .i64) (.pair (.slc (.slc (.int .u8))) .unit)))], [((.int .i64), .ro)], fun x => f16 x.1⟩
theorem f16_m (x : ArgT [.ro (.pair (.int .i64) (.pair (.int .i64) (.pair (.slc (.slc (.int .u8))) .unit)))]) : codeS f16_fx f16_code (start [.ro (.pair (.int .i64) (.pair (.int .i64) (.pair (.slc (.slc (.int .u8))) .unit)))] [] x 43) (finK env [.tmp 2] [.ro (.pair (.int .i64) (.pair (.int .i64) (.pair (.slc (.slc (.int .u8))) .unit)))] [((.int .i64), .ro)]) = f16_k x.1 (fun r => some (r, [])) := by kernel_rfl
theorem f16_n {R : Type} (a0 : (Int × (Int × (List (List Int) × Unit)))) (k : (Int × Unit) × (Unit) → Option R) : f16_k a0 k = (f16 a0).bind k := by
  simp only [f16, f16_k, cond_bind, ite_bind, bind_bind, some_bind, none_bind, elim_bind]
theorem f16_f : FnOk Try.prog 16 := ⟨Try.f16, Try.func16, by kernel_rfl, by kernel_rfl⟩
theorem f16_ok : SmOk Try.prog 16 f16_sm :=
  sum_of (c := f16_fx) (fn := Try.f16) (code := f16_code) (sm := f16_sm) mixed (env_ok env_envB) (TabsOk.all trivial) Try.func16 (by kernel_rfl)
   ((LoopsOk.of (l := [f16_l6_b]) (by kernel_rfl) ⟨node_is (by kernel_rfl) f16_l6_ok, trivial⟩))
   (no_tails (by kernel_rfl))
   (fun ks x hl => by
    have hk : ks = [] := List.length_eq_zero_iff.1 hl
    subst hk
    exact (f16_m x).trans (f16_n _ _))
/-! bakelite/bakelaw2.imageBegun -/
noncomputable def f15_code : Code := (Try.f15.body).getD .skip
noncomputable def f15_fx : Fx := { E := env, T := [(21, f21_sm), (16, f16_sm)], H := [], nodes := [] }
noncomputable def f15_k {R : Type} (k : (Bool × Unit) × (Unit) → Option R) : Option R :=
 ((f21 (2 : Int) (3 : Int)).bind fun r0 =>
 (cond (r0.1.2.1 == (0 : Int))
 (cond (((List.length r0.1.1.2.2.1 : Nat) : Int) == (6 : Int))
  ((f16 r0.1.1).bind fun r1 =>
   (cond (r1.1.1 == (0 : Int))
   ((f16 ((0 : Int), ((0 : Int), ([], ())))).bind fun r2 =>
    (k (((r2.1.1 == (1 : Int)), ()), ())))
   (k ((false, ()), ()))))
  (k ((false, ()), ())))
 (k ((false, ()), ()))))
noncomputable def f15 : Option ((Bool × Unit) × (Unit)) := f15_k some
noncomputable def f15_sm : Sm := ⟨[], [(.bool, .ro)], fun x => f15⟩
theorem f15_m (x : ArgT []) : codeS f15_fx f15_code (start [] [] x 25) (finK env [.tmp 0] [] [(.bool, .ro)]) = f15_k (fun r => some (r, [])) := by kernel_rfl
theorem f15_n {R : Type} (k : (Bool × Unit) × (Unit) → Option R) : f15_k k = (f15).bind k := by
  simp only [f15, f15_k, cond_bind, ite_bind, bind_bind, some_bind, none_bind, elim_bind]
theorem f15_f : FnOk Try.prog 15 := ⟨Try.f15, Try.func15, by kernel_rfl, by kernel_rfl⟩
theorem f15_ok : SmOk Try.prog 15 f15_sm :=
  sum_of (c := f15_fx) (fn := Try.f15) (code := f15_code) (sm := f15_sm) mixed (env_ok env_envB) (TabsOk.all ⟨⟨f21_ok, f21_f⟩, ⟨f16_ok, f16_f⟩, trivial⟩) Try.func15 (by kernel_rfl)
   ((LoopsOk.of (l := []) (by kernel_rfl) trivial))
   (no_tails (by kernel_rfl))
   (fun ks x hl => by
    have hk : ks = [] := List.length_eq_zero_iff.1 hl
    subst hk
    exact (f15_m x).trans (f15_n _))
/-! bakelite/bakeref2.DiskErr$1 -/
noncomputable def f72_code : Code := (Try.f72.body).getD .skip
noncomputable def f72_fx : Fx := { E := env, T := [], H := [], nodes := [] }
noncomputable def f72_k {R : Type} (a0 : List Int) (k : (Bool × Unit) × (Unit) → Option R) : Option R :=
 (k (((((List.length a0 : Nat) : Int) != (128 : Int)), ()), ()))
noncomputable def f72 (a0 : List Int) : Option ((Bool × Unit) × (Unit)) := f72_k a0 some
noncomputable def f72_sm : Sm := ⟨[.ro (.slc (.int .u8))], [(.bool, .ro)], fun x => f72 x.1⟩
theorem f72_m (x : ArgT [.ro (.slc (.int .u8))]) : codeS f72_fx f72_code (start [.ro (.slc (.int .u8))] [] x 6) (finK env [.tmp 2] [.ro (.slc (.int .u8))] [(.bool, .ro)]) = f72_k x.1 (fun r => some (r, [])) := by kernel_rfl
theorem f72_n {R : Type} (a0 : List Int) (k : (Bool × Unit) × (Unit) → Option R) : f72_k a0 k = (f72 a0).bind k := by
  simp only [f72, f72_k, cond_bind, ite_bind, bind_bind, some_bind, none_bind, elim_bind]
theorem f72_f : FnOk Try.prog 72 := ⟨Try.f72, Try.func72, by kernel_rfl, by kernel_rfl⟩
theorem f72_ok : SmOk Try.prog 72 f72_sm :=
  sum_of (c := f72_fx) (fn := Try.f72) (code := f72_code) (sm := f72_sm) mixed (env_ok env_envB) (TabsOk.all trivial) Try.func72 (by kernel_rfl)
   ((LoopsOk.of (l := []) (by kernel_rfl) trivial))
   (no_tails (by kernel_rfl))
   (fun ks x hl => by
    have hk : ks = [] := List.length_eq_zero_iff.1 hl
    subst hk
    exact (f72_m x).trans (f72_n _ _))
/-! slices.IndexFunc[[][]byte,[]byte] -/
noncomputable def f77_code : Code := (Try.f77.body).getD .skip
noncomputable def f77_l2_sk : SkS := ⟨[.con (.slc (.slc (.int .u8))), .fn 72 (.tnil), .undef, .undef, .undef, .undef, .undef, .con (.int .i64), .con (.int .i64), .undef, .undef, .undef, .undef, .undef, .undef, .undef, .undef, .undef, .undef], []⟩
noncomputable def f77_l2_o0 : SkS := ⟨[.undef, .undef, .undef, .undef, .con (.int .i64), .undef, .undef, .undef, .undef, .undef, .undef, .undef, .undef, .undef, .undef, .undef, .undef, .undef, .undef], []⟩
noncomputable def f77_l2_o1 : SkS := ⟨[.undef, .undef, .undef, .undef, .undef, .undef, .undef, .undef, .undef, .undef, .undef, .undef, .undef, .undef, .undef, .undef, .undef, .undef, .undef], []⟩
noncomputable def f77_l2_outs : List Way := [⟨.ret, [], f77_l2_o0⟩, ⟨(.exit 0), [], f77_l2_o1⟩]
abbrev f77_l2_C := (List (List Int) × Int)
abbrev f77_l2_X := Int
abbrev f77_l2_Y := (Int) ⊕ (Unit)
noncomputable def f77_l2_con (t : f77_l2_sk.T) : f77_l2_C := (t.1.1, t.1.2.2.2.2.2.2.2.1)
noncomputable def f77_l2_get (t : f77_l2_sk.T) : f77_l2_X := t.1.2.2.2.2.2.2.2.2.1
noncomputable def f77_l2_put (c : f77_l2_C) (x : f77_l2_X) : f77_l2_sk.T := ((c.1, ((), ((), ((), ((), ((), ((), (c.2, (x, ((), ((), ((), ((), ((), ((), ((), ((), ((), ((), ()))))))))))))))))))), ())
theorem f77_l2_pg (t : f77_l2_sk.T) : f77_l2_put (f77_l2_con t) (f77_l2_get t) = t := by kernel_rfl
noncomputable def f77_l2_w0 (c : f77_l2_C) (y : Int) : f77_l2_o0.T := (((), ((), ((), ((), (y, ((), ((), ((), ((), ((), ((), ((), ((), ((), ((), ((), ((), ((), ((), ()))))))))))))))))))), ())
noncomputable def f77_l2_w1 (c : f77_l2_C) (y : Unit) : f77_l2_o1.T := (((), ((), ((), ((), ((), ((), ((), ((), ((), ((), ((), ((), ((), ((), ((), ((), ((), ((), ((), ()))))))))))))))))))), ())
noncomputable def f77_l2_out (c : f77_l2_C) (y : f77_l2_Y) : OutV f77_l2_outs := (Sum.elim (fun y => (.inl (f77_l2_w0 c y))) (fun y => (.inr (.inl (f77_l2_w1 c y))))) y
noncomputable def f77_l2_k {R : Type} (a0 : List (List Int)) (a1 : Int) (a2 : Int) (kin : f77_l2_X → Option R) (k0 : Int → Option R) (k1 : Unit → Option R) : Option R :=
 (cond (decide (a2 < a1))
 (if (0 : Int) ≤ a2 ∧ a2 < ((List.length a0 : Nat) : Int) then ((f72 (List.getD a0 (Int.toNat a2) ([] : List Int))).bind fun r0 =>
  (cond r0.1.1
  (k0 a2)
  (let v1 : Int := (IntKind.i64.wrap (a2 + (1 : Int)))
   (kin v1)))) else none)
 (k1 ()))
noncomputable def f77_l2_g (a0 : List (List Int)) (a1 : Int) (x : f77_l2_X) : Option (f77_l2_X ⊕ f77_l2_Y) := f77_l2_k a0 a1 x (fun x => some (.inl x)) (fun y => some (.inr (.inl y))) (fun y => some (.inr (.inr y)))
noncomputable def f77_l2 (a0 : List (List Int)) (a1 : Int) (x : f77_l2_X) : Option f77_l2_Y := loopO (f77_l2_g a0 a1) x
noncomputable def f77_l2_nd : Node := { nils := [], sk := f77_l2_sk, outs := f77_l2_outs, Y := f77_l2_Y, L := fun t => f77_l2 ((f77_l2_con t).1) ((f77_l2_con t).2) (f77_l2_get t), out := fun t y => f77_l2_out (f77_l2_con t) y, disp := fun t y K => (Sum.elim (fun y => K .ret (f77_l2_o0.fill (f77_l2_w0 (f77_l2_con t) y))) (fun y => K (.exit 0) (f77_l2_o1.fill (f77_l2_w1 (f77_l2_con t) y)))) y }
noncomputable def f77_fx : Fx := { E := env, T := [(72, f72_sm)], H := [], nodes := [((true, 2), f77_l2_nd)] }
noncomputable def f77_l2_b : Code := (loops f77_code).getD 0 .skip
theorem f77_l2_r (c : f77_l2_C) (x : f77_l2_X) : roundS f77_fx f77_l2_b f77_l2_nd (f77_l2_put c x) = f77_l2_k c.1 c.2 x (fun x => some (.inl (f77_l2_put c x))) (fun y => some (.inr (.inl (f77_l2_w0 c y)))) (fun y => some (.inr (.inr (.inl (f77_l2_w1 c y))))) := by kernel_rfl
theorem f77_l2_n {R : Type} (a0 : List (List Int)) (a1 : Int) (a2 : Int) (kin : f77_l2_X → Option R) (k0 : Int → Option R) (k1 : Unit → Option R) : f77_l2_k a0 a1 a2 kin k0 k1 = (f77_l2_g a0 a1 a2).bind (Sum.elim kin (Sum.elim k0 k1)) := by
  simp only [f77_l2_g, f77_l2_k, cond_bind, ite_bind, bind_bind, some_bind, none_bind, elim_bind, Sum.elim_inl, Sum.elim_inr]
theorem f77_l2_ok : LoopOk f77_fx f77_l2_b f77_l2_nd := loop_ok f77_l2_con f77_l2_get f77_l2_put f77_l2_pg (fun c => f77_l2_g c.1 c.2) f77_l2_out (fun t y => rfl) (by intro R t y K; rcases y with y | y <;> rfl) (fun c x => by
  refine (f77_l2_r c x).trans ((f77_l2_n _ _ _ _ _ _).trans ?_)
  first
  | rfl
  | congr 1
    funext s
    rcases s with s | s | s <;> rfl) (fun t => rfl)
noncomputable def f77_k {R : Type} (a0 : List (List Int)) (a1 : (Unit)) (k : (Int × Unit) × (Unit) → Option R) : Option R :=
 ((f77_l2 a0 ((List.length a0 : Nat) : Int) (0 : Int)).bind fun y2 =>
 ((Sum.elim (fun z3 =>
 (k ((z3, ()), ())))
 (fun z4 =>
 (k (((-1 : Int), ()), ())))) y2))
noncomputable def f77 (a0 : List (List Int)) (a1 : (Unit)) : Option ((Int × Unit) × (Unit)) := f77_k a0 a1 some
noncomputable def f77_sm : Sm := ⟨[.ro (.slc (.slc (.int .u8))), .fn 72 []], [((.int .i64), .ro)], fun x => f77 x.1 x.2.1⟩
theorem f77_m (x : ArgT [.ro (.slc (.slc (.int .u8))), .fn 72 []]) : codeS f77_fx f77_code (start [.ro (.slc (.slc (.int .u8))), .fn 72 []] [] x 19) (finK env [.tmp 4] [.ro (.slc (.slc (.int .u8))), .fn 72 []] [((.int .i64), .ro)]) = f77_k x.1 x.2.1 (fun r => some (r, [])) := by kernel_rfl
theorem f77_n {R : Type} (a0 : List (List Int)) (a1 : (Unit)) (k : (Int × Unit) × (Unit) → Option R) : f77_k a0 a1 k = (f77 a0 a1).bind k := by
  simp only [f77, f77_k, cond_bind, ite_bind, bind_bind, some_bind, none_bind, elim_bind]
theorem f77_f : FnOk Try.prog 77 := ⟨Try.f77, Try.func77, by kernel_rfl, by kernel_rfl⟩
theorem f77_ok : SmOk Try.prog 77 f77_sm :=
  sum_of (c := f77_fx) (fn := Try.f77) (code := f77_code) (sm := f77_sm) mixed (env_ok env_envB) (TabsOk.all ⟨⟨f72_ok, f72_f⟩, trivial⟩) Try.func77 (by kernel_rfl)
   ((LoopsOk.of (l := [f77_l2_b]) (by kernel_rfl) ⟨node_is (by kernel_rfl) f77_l2_ok, trivial⟩))
   (no_tails (by kernel_rfl))
   (fun ks x hl => by
    have hk : ks = [] := List.length_eq_zero_iff.1 hl
    subst hk
    exact (f77_m x).trans (f77_n _ _ _))
/-! slices.ContainsFunc[[][]byte,[]byte] -/
noncomputable def f22_code : Code := (Try.f22.body).getD .skip
noncomputable def f22_fx : Fx := { E := env, T := [(77, f77_sm)], H := [], nodes := [] }
noncomputable def f22_k {R : Type} (a0 : List (List Int)) (a1 : (Unit)) (k : (Bool × Unit) × (Unit) → Option R) : Option R :=
 ((f77 a0 ()).bind fun r0 =>
 (k (((decide (r0.1.1 ≥ (0 : Int))), ()), ())))
noncomputable def f22 (a0 : List (List Int)) (a1 : (Unit)) : Option ((Bool × Unit) × (Unit)) := f22_k a0 a1 some
noncomputable def f22_sm : Sm := ⟨[.ro (.slc (.slc (.int .u8))), .fn 72 []], [(.bool, .ro)], fun x => f22 x.1 x.2.1⟩
theorem f22_m (x : ArgT [.ro (.slc (.slc (.int .u8))), .fn 72 []]) : codeS f22_fx f22_code (start [.ro (.slc (.slc (.int .u8))), .fn 72 []] [] x 9) (finK env [.tmp 4] [.ro (.slc (.slc (.int .u8))), .fn 72 []] [(.bool, .ro)]) = f22_k x.1 x.2.1 (fun r => some (r, [])) := by kernel_rfl
theorem f22_n {R : Type} (a0 : List (List Int)) (a1 : (Unit)) (k : (Bool × Unit) × (Unit) → Option R) : f22_k a0 a1 k = (f22 a0 a1).bind k := by
  simp only [f22, f22_k, cond_bind, ite_bind, bind_bind, some_bind, none_bind, elim_bind]
theorem f22_f : FnOk Try.prog 22 := ⟨Try.f22, Try.func22, by kernel_rfl, by kernel_rfl⟩
theorem f22_ok : SmOk Try.prog 22 f22_sm :=
  sum_of (c := f22_fx) (fn := Try.f22) (code := f22_code) (sm := f22_sm) mixed (env_ok env_envB) (TabsOk.all ⟨⟨f77_ok, f77_f⟩, trivial⟩) Try.func22 (by kernel_rfl)
   ((LoopsOk.of (l := []) (by kernel_rfl) trivial))
   (no_tails (by kernel_rfl))
   (fun ks x hl => by
    have hk : ks = [] := List.length_eq_zero_iff.1 hl
    subst hk
    exact (f22_m x).trans (f22_n _ _ _))
/-! bakelite/bakeref2.DiskErr -/
noncomputable def f17_code : Code := (Try.f17.body).getD .skip
noncomputable def f17_fx : Fx := { E := env, T := [(22, f22_sm)], H := [], nodes := [] }
noncomputable def f17_k {R : Type} (a0 : (Int × (Int × (List (List Int) × Unit)))) (k : (Int × Unit) × (Unit) → Option R) : Option R :=
 (let v0 : Int := (if a0.2.1 < a0.1 then a0.2.1 else a0.1)
 (cond (decide (v0 < (1 : Int)))
 (k (((1 : Int), ()), ()))
 (cond (decide (a0.1 > (20 : Int)))
  (k (((1 : Int), ()), ()))
  (cond (decide (a0.2.1 > (12 : Int)))
   (k (((1 : Int), ()), ()))
   (let v1 : Int := (IntKind.i64.wrap (a0.2.1 * a0.1))
    (cond (((List.length a0.2.2.1 : Nat) : Int) != v1)
    (k (((3 : Int), ()), ()))
    ((f22 a0.2.2.1 ()).bind fun r2 =>
     (cond r2.1.1
     (k (((3 : Int), ()), ()))
     (k (((0 : Int), ()), ()))))))))))
noncomputable def f17 (a0 : (Int × (Int × (List (List Int) × Unit)))) : Option ((Int × Unit) × (Unit)) := f17_k a0 some
noncomputable def f17_sm : Sm := ⟨[.ro (.pair (.int .i64) (.pair (.int .i64) (.pair (.slc (.slc (.int .u8))) .unit)))], [((.int .i64), .ro)], fun x => f17 x.1⟩
theorem f17_m (x : ArgT [.ro (.pair (.int .i64) (.pair (.int .i64) (.pair (.slc (.slc (.int .u8))) .unit)))]) : codeS f17_fx f17_code (start [.ro (.pair (.int .i64) (.pair (.int .i64) (.pair (.slc (.slc (.int .u8))) .unit)))] [] x 33) (finK env [.tmp 2] [.ro (.pair (.int .i64) (.pair (.int .i64) (.pair (.slc (.slc (.int .u8))) .unit)))] [((.int .i64), .ro)]) = f17_k x.1 (fun r => some (r, [])) := by kernel_rfl
theorem f17_n {R : Type} (a0 : (Int × (Int × (List (List Int) × Unit)))) (k : (Int × Unit) × (Unit) → Option R) : f17_k a0 k = (f17 a0).bind k := by
  simp only [f17, f17_k, cond_bind, ite_bind, bind_bind, some_bind, none_bind, elim_bind]
theorem f17_f : FnOk Try.prog 17 := ⟨Try.f17, Try.func17, by kernel_rfl, by kernel_rfl⟩
theorem f17_ok : SmOk Try.prog 17 f17_sm :=
  sum_of (c := f17_fx) (fn := Try.f17) (code := f17_code) (sm := f17_sm) mixed (env_ok env_envB) (TabsOk.all ⟨⟨f22_ok, f22_f⟩, trivial⟩) Try.func17 (by kernel_rfl)
   ((LoopsOk.of (l := []) (by kernel_rfl) trivial))
   (no_tails (by kernel_rfl))
   (fun ks x hl => by
    have hk : ks = [] := List.length_eq_zero_iff.1 hl
    subst hk
    exact (f17_m x).trans (f17_n _ _))
/-! slices.Equal[[]byte,byte] -/
noncomputable def f24_code : Code := (Try.f24.body).getD .skip
noncomputable def f24_l4_sk : SkS := ⟨[.con (.slc (.int .u8)), .con (.slc (.int .u8)), .undef, .undef, .undef, .undef, .undef, .undef, .undef, .undef, .undef, .undef, .con (.int .i64), .con (.int .i64), .undef, .undef, .undef, .undef, .undef, .undef, .undef, .undef, .undef, .undef, .undef, .undef], []⟩
noncomputable def f24_l4_o0 : SkS := ⟨[.undef, .undef, .undef, .undef, .con .bool, .undef, .undef, .undef, .undef, .undef, .undef, .undef, .undef, .undef, .undef, .undef, .undef, .undef, .undef, .undef, .undef, .undef, .undef, .undef, .undef, .undef], []⟩
noncomputable def f24_l4_o1 : SkS := ⟨[.undef, .undef, .undef, .undef, .undef, .undef, .undef, .undef, .undef, .undef, .undef, .undef, .undef, .undef, .undef, .undef, .undef, .undef, .undef, .undef, .undef, .undef, .undef, .undef, .undef, .undef], []⟩
noncomputable def f24_l4_outs : List Way := [⟨.ret, [], f24_l4_o0⟩, ⟨(.exit 0), [], f24_l4_o1⟩]
abbrev f24_l4_C := (List Int × List Int × Int)
abbrev f24_l4_X := Int
abbrev f24_l4_Y := (Unit) ⊕ (Unit)
noncomputable def f24_l4_con (t : f24_l4_sk.T) : f24_l4_C := (t.1.1, t.1.2.1, t.1.2.2.2.2.2.2.2.2.2.2.2.2.1)
noncomputable def f24_l4_get (t : f24_l4_sk.T) : f24_l4_X := t.1.2.2.2.2.2.2.2.2.2.2.2.2.2.1
noncomputable def f24_l4_put (c : f24_l4_C) (x : f24_l4_X) : f24_l4_sk.T := ((c.1, (c.2.1, ((), ((), ((), ((), ((), ((), ((), ((), ((), ((), (c.2.2, (x, ((), ((), ((), ((), ((), ((), ((), ((), ((), ((), ((), ((), ())))))))))))))))))))))))))), ())
theorem f24_l4_pg (t : f24_l4_sk.T) : f24_l4_put (f24_l4_con t) (f24_l4_get t) = t := by kernel_rfl
noncomputable def f24_l4_w0 (c : f24_l4_C) (y : Unit) : f24_l4_o0.T := (((), ((), ((), ((), (false, ((), ((), ((), ((), ((), ((), ((), ((), ((), ((), ((), ((), ((), ((), ((), ((), ((), ((), ((), ((), ((), ())))))))))))))))))))))))))), ())
noncomputable def f24_l4_w1 (c : f24_l4_C) (y : Unit) : f24_l4_o1.T := (((), ((), ((), ((), ((), ((), ((), ((), ((), ((), ((), ((), ((), ((), ((), ((), ((), ((), ((), ((), ((), ((), ((), ((), ((), ((), ())))))))))))))))))))))))))), ())
noncomputable def f24_l4_out (c : f24_l4_C) (y : f24_l4_Y) : OutV f24_l4_outs := (Sum.elim (fun y => (.inl (f24_l4_w0 c y))) (fun y => (.inr (.inl (f24_l4_w1 c y))))) y
noncomputable def f24_l4_k {R : Type} (a0 : List Int) (a1 : List Int) (a2 : Int) (a3 : Int) (kin : f24_l4_X → Option R) (k0 : Unit → Option R) (k1 : Unit → Option R) : Option R :=
 (cond (decide (a3 < a2))
 (if (0 : Int) ≤ a3 ∧ a3 < ((List.length a0 : Nat) : Int) then (if (0 : Int) ≤ a3 ∧ a3 < ((List.length a1 : Nat) : Int) then (cond ((List.getD a0 (Int.toNat a3) (0 : Int)) != (List.getD a1 (Int.toNat a3) (0 : Int)))
  (k0 ())
  (let v0 : Int := (IntKind.i64.wrap (a3 + (1 : Int)))
   (kin v0))) else none) else none)
 (k1 ()))
noncomputable def f24_l4_g (a0 : List Int) (a1 : List Int) (a2 : Int) (x : f24_l4_X) : Option (f24_l4_X ⊕ f24_l4_Y) := f24_l4_k a0 a1 a2 x (fun x => some (.inl x)) (fun y => some (.inr (.inl y))) (fun y => some (.inr (.inr y)))
noncomputable def f24_l4 (a0 : List Int) (a1 : List Int) (a2 : Int) (x : f24_l4_X) : Option f24_l4_Y := loopO (f24_l4_g a0 a1 a2) x
noncomputable def f24_l4_nd : Node := { nils := [], sk := f24_l4_sk, outs := f24_l4_outs, Y := f24_l4_Y, L := fun t => f24_l4 ((f24_l4_con t).1) ((f24_l4_con t).2.1) ((f24_l4_con t).2.2) (f24_l4_get t), out := fun t y => f24_l4_out (f24_l4_con t) y, disp := fun t y K => (Sum.elim (fun y => K .ret (f24_l4_o0.fill (f24_l4_w0 (f24_l4_con t) y))) (fun y => K (.exit 0) (f24_l4_o1.fill (f24_l4_w1 (f24_l4_con t) y)))) y }
noncomputable def f24_fx : Fx := { E := env, T := [], H := [], nodes := [((true, 4), f24_l4_nd)] }
noncomputable def f24_l4_b : Code := (loops f24_code).getD 0 .skip
theorem f24_l4_r (c : f24_l4_C) (x : f24_l4_X) : roundS f24_fx f24_l4_b f24_l4_nd (f24_l4_put c x) = f24_l4_k c.1 c.2.1 c.2.2 x (fun x => some (.inl (f24_l4_put c x))) (fun y => some (.inr (.inl (f24_l4_w0 c y)))) (fun y => some (.inr (.inr (.inl (f24_l4_w1 c y))))) := by kernel_rfl
theorem f24_l4_n {R : Type} (a0 : List Int) (a1 : List Int) (a2 : Int) (a3 : Int) (kin : f24_l4_X → Option R) (k0 : Unit → Option R) (k1 : Unit → Option R) : f24_l4_k a0 a1 a2 a3 kin k0 k1 = (f24_l4_g a0 a1 a2 a3).bind (Sum.elim kin (Sum.elim k0 k1)) := by
  simp only [f24_l4_g, f24_l4_k, cond_bind, ite_bind, bind_bind, some_bind, none_bind, elim_bind, Sum.elim_inl, Sum.elim_inr]
theorem f24_l4_ok : LoopOk f24_fx f24_l4_b f24_l4_nd := loop_ok f24_l4_con f24_l4_get f24_l4_put f24_l4_pg (fun c => f24_l4_g c.1 c.2.1 c.2.2) f24_l4_out (fun t y => rfl) (by intro R t y K; rcases y with y | y <;> rfl) (fun c x => by
  refine (f24_l4_r c x).trans ((f24_l4_n _ _ _ _ _ _ _).trans ?_)
  first
  | rfl
  | congr 1
    funext s
    rcases s with s | s | s <;> rfl) (fun t => rfl)
noncomputable def f24_k {R : Type} (a0 : List Int) (a1 : List Int) (k : (Bool × Unit) × (Unit) → Option R) : Option R :=
 (cond (((List.length a0 : Nat) : Int) != ((List.length a1 : Nat) : Int))
 (k ((false, ()), ()))
 ((f24_l4 a0 a1 ((List.length a0 : Nat) : Int) (0 : Int)).bind fun y1 =>
  ((Sum.elim (fun z2 =>
  (k ((false, ()), ())))
  (fun z3 =>
  (k ((true, ()), ())))) y1)))
noncomputable def f24 (a0 : List Int) (a1 : List Int) : Option ((Bool × Unit) × (Unit)) := f24_k a0 a1 some
noncomputable def f24_sm : Sm := ⟨[.ro (.slc (.int .u8)), .ro (.slc (.int .u8))], [(.bool, .ro)], fun x => f24 x.1 x.2.1⟩
theorem f24_m (x : ArgT [.ro (.slc (.int .u8)), .ro (.slc (.int .u8))]) : codeS f24_fx f24_code (start [.ro (.slc (.int .u8)), .ro (.slc (.int .u8))] [] x 26) (finK env [.tmp 4] [.ro (.slc (.int .u8)), .ro (.slc (.int .u8))] [(.bool, .ro)]) = f24_k x.1 x.2.1 (fun r => some (r, [])) := by kernel_rfl
theorem f24_n {R : Type} (a0 : List Int) (a1 : List Int) (k : (Bool × Unit) × (Unit) → Option R) : f24_k a0 a1 k = (f24 a0 a1).bind k := by
  simp only [f24, f24_k, cond_bind, ite_bind, bind_bind, some_bind, none_bind, elim_bind]
theorem f24_f : FnOk Try.prog 24 := ⟨Try.f24, Try.func24, by kernel_rfl, by kernel_rfl⟩
theorem f24_ok : SmOk Try.prog 24 f24_sm :=
  sum_of (c := f24_fx) (fn := Try.f24) (code := f24_code) (sm := f24_sm) mixed (env_ok env_envB) (TabsOk.all trivial) Try.func24 (by kernel_rfl)
   ((LoopsOk.of (l := [f24_l4_b]) (by kernel_rfl) ⟨node_is (by kernel_rfl) f24_l4_ok, trivial⟩))
   (no_tails (by kernel_rfl))
   (fun ks x hl => by
    have hk : ks = [] := List.length_eq_zero_iff.1 hl
    subst hk
    exact (f24_m x).trans (f24_n _ _ _))
/-! bakelite/image.Same$1 -/
noncomputable def f74_code : Code := (Try.f74.body).getD .skip
noncomputable def f74_fx : Fx := { E := env, T := [(24, f24_sm)], H := [], nodes := [] }
noncomputable def f74_k {R : Type} (a0 : List Int) (a1 : List Int) (k : (Bool × Unit) × (Unit) → Option R) : Option R :=
 ((f24 a0 a1).bind fun r0 =>
 (k ((r0.1.1, ()), ())))
noncomputable def f74 (a0 : List Int) (a1 : List Int) : Option ((Bool × Unit) × (Unit)) := f74_k a0 a1 some
noncomputable def f74_sm : Sm := ⟨[.ro (.slc (.int .u8)), .ro (.slc (.int .u8))], [(.bool, .ro)], fun x => f74 x.1 x.2.1⟩
theorem f74_m (x : ArgT [.ro (.slc (.int .u8)), .ro (.slc (.int .u8))]) : codeS f74_fx f74_code (start [.ro (.slc (.int .u8)), .ro (.slc (.int .u8))] [] x 8) (finK env [.tmp 4] [.ro (.slc (.int .u8)), .ro (.slc (.int .u8))] [(.bool, .ro)]) = f74_k x.1 x.2.1 (fun r => some (r, [])) := by kernel_rfl
theorem f74_n {R : Type} (a0 : List Int) (a1 : List Int) (k : (Bool × Unit) × (Unit) → Option R) : f74_k a0 a1 k = (f74 a0 a1).bind k := by
  simp only [f74, f74_k, cond_bind, ite_bind, bind_bind, some_bind, none_bind, elim_bind]
theorem f74_f : FnOk Try.prog 74 := ⟨Try.f74, Try.func74, by kernel_rfl, by kernel_rfl⟩
theorem f74_ok : SmOk Try.prog 74 f74_sm :=
  sum_of (c := f74_fx) (fn := Try.f74) (code := f74_code) (sm := f74_sm) mixed (env_ok env_envB) (TabsOk.all ⟨⟨f24_ok, f24_f⟩, trivial⟩) Try.func74 (by kernel_rfl)
   ((LoopsOk.of (l := []) (by kernel_rfl) trivial))
   (no_tails (by kernel_rfl))
   (fun ks x hl => by
    have hk : ks = [] := List.length_eq_zero_iff.1 hl
    subst hk
    exact (f74_m x).trans (f74_n _ _ _))
/-! slices.EqualFunc[[][]byte,[][]byte,[]byte,[]byte] -/
noncomputable def f73_code : Code := (Try.f73.body).getD .skip
noncomputable def f73_l4_sk : SkS := ⟨[.undef, .con (.slc (.slc (.int .u8))), .fn 74 (.tnil), .undef, .undef, .undef, .undef, .undef, .undef, .undef, .undef, .undef, .undef, .undef, .undef, .con (.slc (.slc (.int .u8))), .con (.int .i64), .con (.int .i64), .undef, .undef, .undef, .undef, .undef, .undef, .undef, .undef, .undef, .undef, .undef, .undef, .undef, .undef], []⟩
noncomputable def f73_l4_o0 : SkS := ⟨[.undef, .undef, .undef, .undef, .undef, .undef, .con .bool, .undef, .undef, .undef, .undef, .undef, .undef, .undef, .undef, .undef, .undef, .undef, .undef, .undef, .undef, .undef, .undef, .undef, .undef, .undef, .undef, .undef, .undef, .undef, .undef, .undef], []⟩
noncomputable def f73_l4_o1 : SkS := ⟨[.undef, .undef, .undef, .undef, .undef, .undef, .undef, .undef, .undef, .undef, .undef, .undef, .undef, .undef, .undef, .undef, .undef, .undef, .undef, .undef, .undef, .undef, .undef, .undef, .undef, .undef, .undef, .undef, .undef, .undef, .undef, .undef], []⟩
noncomputable def f73_l4_outs : List Way := [⟨.ret, [], f73_l4_o0⟩, ⟨(.exit 0), [], f73_l4_o1⟩]
abbrev f73_l4_C := (List (List Int) × List (List Int) × Int)
abbrev f73_l4_X := Int
abbrev f73_l4_Y := (Unit) ⊕ (Unit)
noncomputable def f73_l4_con (t : f73_l4_sk.T) : f73_l4_C := (t.1.2.1, t.1.2.2.2.2.2.2.2.2.2.2.2.2.2.2.2.1, t.1.2.2.2.2.2.2.2.2.2.2.2.2.2.2.2.2.1)
noncomputable def f73_l4_get (t : f73_l4_sk.T) : f73_l4_X := t.1.2.2.2.2.2.2.2.2.2.2.2.2.2.2.2.2.2.1
noncomputable def f73_l4_put (c : f73_l4_C) (x : f73_l4_X) : f73_l4_sk.T := (((), (c.1, ((), ((), ((), ((), ((), ((), ((), ((), ((), ((), ((), ((), ((), (c.2.1, (c.2.2, (x, ((), ((), ((), ((), ((), ((), ((), ((), ((), ((), ((), ((), ((), ((), ())))))))))))))))))))))))))))))))), ())
theorem f73_l4_pg (t : f73_l4_sk.T) : f73_l4_put (f73_l4_con t) (f73_l4_get t) = t := by kernel_rfl
noncomputable def f73_l4_w0 (c : f73_l4_C) (y : Unit) : f73_l4_o0.T := (((), ((), ((), ((), ((), ((), (false, ((), ((), ((), ((), ((), ((), ((), ((), ((), ((), ((), ((), ((), ((), ((), ((), ((), ((), ((), ((), ((), ((), ((), ((), ((), ())))))))))))))))))))))))))))))))), ())
noncomputable def f73_l4_w1 (c : f73_l4_C) (y : Unit) : f73_l4_o1.T := (((), ((), ((), ((), ((), ((), ((), ((), ((), ((), ((), ((), ((), ((), ((), ((), ((), ((), ((), ((), ((), ((), ((), ((), ((), ((), ((), ((), ((), ((), ((), ((), ())))))))))))))))))))))))))))))))), ())
noncomputable def f73_l4_out (c : f73_l4_C) (y : f73_l4_Y) : OutV f73_l4_outs := (Sum.elim (fun y => (.inl (f73_l4_w0 c y))) (fun y => (.inr (.inl (f73_l4_w1 c y))))) y
noncomputable def f73_l4_k {R : Type} (a0 : List (List Int)) (a1 : List (List Int)) (a2 : Int) (a3 : Int) (kin : f73_l4_X → Option R) (k0 : Unit → Option R) (k1 : Unit → Option R) : Option R :=
 (cond (decide (a3 < a2))
 (if (0 : Int) ≤ a3 ∧ a3 < ((List.length a1 : Nat) : Int) then (if (0 : Int) ≤ a3 ∧ a3 < ((List.length a0 : Nat) : Int) then ((f74 (List.getD a1 (Int.toNat a3) ([] : List Int)) (List.getD a0 (Int.toNat a3) ([] : List Int))).bind fun r0 =>
  (cond (!r0.1.1)
  (k0 ())
  (let v1 : Int := (IntKind.i64.wrap (a3 + (1 : Int)))
   (kin v1)))) else none) else none)
 (k1 ()))
noncomputable def f73_l4_g (a0 : List (List Int)) (a1 : List (List Int)) (a2 : Int) (x : f73_l4_X) : Option (f73_l4_X ⊕ f73_l4_Y) := f73_l4_k a0 a1 a2 x (fun x => some (.inl x)) (fun y => some (.inr (.inl y))) (fun y => some (.inr (.inr y)))
noncomputable def f73_l4 (a0 : List (List Int)) (a1 : List (List Int)) (a2 : Int) (x : f73_l4_X) : Option f73_l4_Y := loopO (f73_l4_g a0 a1 a2) x
noncomputable def f73_l4_nd : Node := { nils := [], sk := f73_l4_sk, outs := f73_l4_outs, Y := f73_l4_Y, L := fun t => f73_l4 ((f73_l4_con t).1) ((f73_l4_con t).2.1) ((f73_l4_con t).2.2) (f73_l4_get t), out := fun t y => f73_l4_out (f73_l4_con t) y, disp := fun t y K => (Sum.elim (fun y => K .ret (f73_l4_o0.fill (f73_l4_w0 (f73_l4_con t) y))) (fun y => K (.exit 0) (f73_l4_o1.fill (f73_l4_w1 (f73_l4_con t) y)))) y }
noncomputable def f73_fx : Fx := { E := env, T := [(74, f74_sm)], H := [], nodes := [((true, 4), f73_l4_nd)] }
noncomputable def f73_l4_b : Code := (loops f73_code).getD 0 .skip
theorem f73_l4_r (c : f73_l4_C) (x : f73_l4_X) : roundS f73_fx f73_l4_b f73_l4_nd (f73_l4_put c x) = f73_l4_k c.1 c.2.1 c.2.2 x (fun x => some (.inl (f73_l4_put c x))) (fun y => some (.inr (.inl (f73_l4_w0 c y)))) (fun y => some (.inr (.inr (.inl (f73_l4_w1 c y))))) := by kernel_rfl
theorem f73_l4_n {R : Type} (a0 : List (List Int)) (a1 : List (List Int)) (a2 : Int) (a3 : Int) (kin : f73_l4_X → Option R) (k0 : Unit → Option R) (k1 : Unit → Option R) : f73_l4_k a0 a1 a2 a3 kin k0 k1 = (f73_l4_g a0 a1 a2 a3).bind (Sum.elim kin (Sum.elim k0 k1)) := by
  simp only [f73_l4_g, f73_l4_k, cond_bind, ite_bind, bind_bind, some_bind, none_bind, elim_bind, Sum.elim_inl, Sum.elim_inr]
theorem f73_l4_ok : LoopOk f73_fx f73_l4_b f73_l4_nd := loop_ok f73_l4_con f73_l4_get f73_l4_put f73_l4_pg (fun c => f73_l4_g c.1 c.2.1 c.2.2) f73_l4_out (fun t y => rfl) (by intro R t y K; rcases y with y | y <;> rfl) (fun c x => by
  refine (f73_l4_r c x).trans ((f73_l4_n _ _ _ _ _ _ _).trans ?_)
  first
  | rfl
  | congr 1
    funext s
    rcases s with s | s | s <;> rfl) (fun t => rfl)
noncomputable def f73_k {R : Type} (a0 : List (List Int)) (a1 : List (List Int)) (a2 : (Unit)) (k : (Bool × Unit) × (Unit) → Option R) : Option R :=
 (cond (((List.length a0 : Nat) : Int) != ((List.length a1 : Nat) : Int))
 (k ((false, ()), ()))
 ((f73_l4 a1 a0 ((List.length a0 : Nat) : Int) (0 : Int)).bind fun y2 =>
  ((Sum.elim (fun z3 =>
  (k ((false, ()), ())))
  (fun z4 =>
  (k ((true, ()), ())))) y2)))
noncomputable def f73 (a0 : List (List Int)) (a1 : List (List Int)) (a2 : (Unit)) : Option ((Bool × Unit) × (Unit)) := f73_k a0 a1 a2 some
noncomputable def f73_sm : Sm := ⟨[.ro (.slc (.slc (.int .u8))), .ro (.slc (.slc (.int .u8))), .fn 74 []], [(.bool, .ro)], fun x => f73 x.1 x.2.1 x.2.2.1⟩
theorem f73_m (x : ArgT [.ro (.slc (.slc (.int .u8))), .ro (.slc (.slc (.int .u8))), .fn 74 []]) : codeS f73_fx f73_code (start [.ro (.slc (.slc (.int .u8))), .ro (.slc (.slc (.int .u8))), .fn 74 []] [] x 32) (finK env [.tmp 6] [.ro (.slc (.slc (.int .u8))), .ro (.slc (.slc (.int .u8))), .fn 74 []] [(.bool, .ro)]) = f73_k x.1 x.2.1 x.2.2.1 (fun r => some (r, [])) := by kernel_rfl
theorem f73_n {R : Type} (a0 : List (List Int)) (a1 : List (List Int)) (a2 : (Unit)) (k : (Bool × Unit) × (Unit) → Option R) : f73_k a0 a1 a2 k = (f73 a0 a1 a2).bind k := by
  simp only [f73, f73_k, cond_bind, ite_bind, bind_bind, some_bind, none_bind, elim_bind]
theorem f73_f : FnOk Try.prog 73 := ⟨Try.f73, Try.func73, by kernel_rfl, by kernel_rfl⟩
theorem f73_ok : SmOk Try.prog 73 f73_sm :=
  sum_of (c := f73_fx) (fn := Try.f73) (code := f73_code) (sm := f73_sm) mixed (env_ok env_envB) (TabsOk.all ⟨⟨f74_ok, f74_f⟩, trivial⟩) Try.func73 (by kernel_rfl)
   ((LoopsOk.of (l := [f73_l4_b]) (by kernel_rfl) ⟨node_is (by kernel_rfl) f73_l4_ok, trivial⟩))
   (no_tails (by kernel_rfl))
   (fun ks x hl => by
    have hk : ks = [] := List.length_eq_zero_iff.1 hl
    subst hk
    exact (f73_m x).trans (f73_n _ _ _ _))
/-! bakelite/image.Same -/
noncomputable def f18_code : Code := (Try.f18.body).getD .skip
noncomputable def f18_fx : Fx := { E := env, T := [(73, f73_sm)], H := [], nodes := [] }
noncomputable def f18_k {R : Type} (a0 : (Int × (Int × (List (List Int) × Unit)))) (a1 : (Int × (Int × (List (List Int) × Unit)))) (k : (Bool × Unit) × (Unit) → Option R) : Option R :=
 (cond (a0.1 == a1.1)
 (cond (a0.2.1 == a1.2.1)
  ((f73 a0.2.2.1 a1.2.2.1 ()).bind fun r0 =>
   (k ((r0.1.1, ()), ())))
  (k ((false, ()), ())))
 (k ((false, ()), ())))
noncomputable def f18 (a0 : (Int × (Int × (List (List Int) × Unit)))) (a1 : (Int × (Int × (List (List Int) × Unit)))) : Option ((Bool × Unit) × (Unit)) := f18_k a0 a1 some
noncomputable def f18_sm : Sm := ⟨[.ro (.pair (.int .i64) (.pair (.int .i64) (.pair (.slc (.slc (.int .u8))) .unit))), .ro (.pair (.int .i64) (.pair (.int .i64) (.pair (.slc (.slc (.int .u8))) .unit)))], [(.bool, .ro)], fun x => f18 x.1 x.2.1⟩
theorem f18_m (x : ArgT [.ro (.pair (.int .i64) (.pair (.int .i64) (.pair (.slc (.slc (.int .u8))) .unit))), .ro (.pair (.int .i64) (.pair (.int .i64) (.pair (.slc (.slc (.int .u8))) .unit)))]) : codeS f18_fx f18_code (start [.ro (.pair (.int .i64) (.pair (.int .i64) (.pair (.slc (.slc (.int .u8))) .unit))), .ro (.pair (.int .i64) (.pair (.int .i64) (.pair (.slc (.slc (.int .u8))) .unit)))] [] x 24) (finK env [.tmp 4] [.ro (.pair (.int .i64) (.pair (.int .i64) (.pair (.slc (.slc (.int .u8))) .unit))), .ro (.pair (.int .i64) (.pair (.int .i64) (.pair (.slc (.slc (.int .u8))) .unit)))] [(.bool, .ro)]) = f18_k x.1 x.2.1 (fun r => some (r, [])) := by kernel_rfl
theorem f18_n {R : Type} (a0 : (Int × (Int × (List (List Int) × Unit)))) (a1 : (Int × (Int × (List (List Int) × Unit)))) (k : (Bool × Unit) × (Unit) → Option R) : f18_k a0 a1 k = (f18 a0 a1).bind k := by
  simp only [f18, f18_k, cond_bind, ite_bind, bind_bind, some_bind, none_bind, elim_bind]
theorem f18_f : FnOk Try.prog 18 := ⟨Try.f18, Try.func18, by kernel_rfl, by kernel_rfl⟩
theorem f18_ok : SmOk Try.prog 18 f18_sm :=
  sum_of (c := f18_fx) (fn := Try.f18) (code := f18_code) (sm := f18_sm) mixed (env_ok env_envB) (TabsOk.all ⟨⟨f73_ok, f73_f⟩, trivial⟩) Try.func18 (by kernel_rfl)
   ((LoopsOk.of (l := []) (by kernel_rfl) trivial))
   (no_tails (by kernel_rfl))
   (fun ks x hl => by
    have hk : ks = [] := List.length_eq_zero_iff.1 hl
    subst hk
    exact (f18_m x).trans (f18_n _ _ _))
/-! bakelite/bakeref2.SameDisk -/
noncomputable def f19_code : Code := (Try.f19.body).getD .skip
noncomputable def f19_l4_sk : SkS := ⟨[.undef, .undef, .ptr 32 [], .ptr 48 [], .undef, .undef, .undef, .undef, .undef, .undef, .undef, .undef, .undef, .undef, .undef, .undef, .undef, .undef, .undef, .undef, .undef, .undef, .undef, .undef, .undef, .undef, .undef, .undef, .undef, .con (.int .i64), .con (.int .i64), .undef, .undef, .undef, .undef, .undef, .undef, .undef, .undef, .undef, .undef, .undef, .undef, .undef, .undef, .undef, .undef], [(32, ⟨some 24, (.pair (.int .i64) (.pair (.int .i64) (.pair (.slc (.slc (.int .u8))) .unit))), .ro⟩), (48, ⟨some 24, (.pair (.int .i64) (.pair (.int .i64) (.pair (.slc (.slc (.int .u8))) .unit))), .ro⟩)]⟩
noncomputable def f19_l4_o0 : SkS := ⟨[.undef, .undef, .undef, .undef, .con .bool, .undef, .undef, .undef, .undef, .undef, .undef, .undef, .undef, .undef, .undef, .undef, .undef, .undef, .undef, .undef, .undef, .undef, .undef, .undef, .undef, .undef, .undef, .undef, .undef, .undef, .undef, .undef, .undef, .undef, .undef, .undef, .undef, .undef, .undef, .undef, .undef, .undef, .undef, .undef, .undef, .undef, .undef], []⟩
noncomputable def f19_l4_o1 : SkS := ⟨[.undef, .undef, .undef, .undef, .undef, .undef, .undef, .undef, .undef, .undef, .undef, .undef, .undef, .undef, .undef, .undef, .undef, .undef, .undef, .undef, .undef, .undef, .undef, .undef, .undef, .undef, .undef, .undef, .undef, .undef, .undef, .undef, .undef, .undef, .undef, .undef, .undef, .undef, .undef, .undef, .undef, .undef, .undef, .undef, .undef, .undef, .undef], []⟩
noncomputable def f19_l4_outs : List Way := [⟨.ret, [], f19_l4_o0⟩, ⟨(.exit 0), [], f19_l4_o1⟩]
abbrev f19_l4_C := (Int × (Int × (Int × (List (List Int) × Unit))) × (Int × (Int × (List (List Int) × Unit))) × (Option Nat) × (Option Nat))
abbrev f19_l4_X := Int
abbrev f19_l4_Y := (Unit) ⊕ (Unit)
noncomputable def f19_l4_con (t : f19_l4_sk.T) : f19_l4_C := (t.1.2.2.2.2.2.2.2.2.2.2.2.2.2.2.2.2.2.2.2.2.2.2.2.2.2.2.2.2.2.1, t.2.1.1, t.2.2.1.1, t.2.1.2, t.2.2.1.2)
noncomputable def f19_l4_get (t : f19_l4_sk.T) : f19_l4_X := t.1.2.2.2.2.2.2.2.2.2.2.2.2.2.2.2.2.2.2.2.2.2.2.2.2.2.2.2.2.2.2.1
noncomputable def f19_l4_put (c : f19_l4_C) (x : f19_l4_X) : f19_l4_sk.T := (((), ((), ((), ((), ((), ((), ((), ((), ((), ((), ((), ((), ((), ((), ((), ((), ((), ((), ((), ((), ((), ((), ((), ((), ((), ((), ((), ((), ((), (c.1, (x, ((), ((), ((), ((), ((), ((), ((), ((), ((), ((), ((), ((), ((), ((), ((), ((), ()))))))))))))))))))))))))))))))))))))))))))))))), ((c.2.1, c.2.2.2.1), ((c.2.2.1, c.2.2.2.2), ())))
theorem f19_l4_pg (t : f19_l4_sk.T) : f19_l4_put (f19_l4_con t) (f19_l4_get t) = t := by kernel_rfl
noncomputable def f19_l4_w0 (c : f19_l4_C) (y : Unit) : f19_l4_o0.T := (((), ((), ((), ((), (false, ((), ((), ((), ((), ((), ((), ((), ((), ((), ((), ((), ((), ((), ((), ((), ((), ((), ((), ((), ((), ((), ((), ((), ((), ((), ((), ((), ((), ((), ((), ((), ((), ((), ((), ((), ((), ((), ((), ((), ((), ((), ((), ()))))))))))))))))))))))))))))))))))))))))))))))), ())
noncomputable def f19_l4_w1 (c : f19_l4_C) (y : Unit) : f19_l4_o1.T := (((), ((), ((), ((), ((), ((), ((), ((), ((), ((), ((), ((), ((), ((), ((), ((), ((), ((), ((), ((), ((), ((), ((), ((), ((), ((), ((), ((), ((), ((), ((), ((), ((), ((), ((), ((), ((), ((), ((), ((), ((), ((), ((), ((), ((), ((), ((), ()))))))))))))))))))))))))))))))))))))))))))))))), ())
noncomputable def f19_l4_out (c : f19_l4_C) (y : f19_l4_Y) : OutV f19_l4_outs := (Sum.elim (fun y => (.inl (f19_l4_w0 c y))) (fun y => (.inr (.inl (f19_l4_w1 c y))))) y
noncomputable def f19_l4_k {R : Type} (a0 : Int) (a1 : Int) (a2 : (Int × (Int × (List (List Int) × Unit)))) (a3 : (Int × (Int × (List (List Int) × Unit)))) (kin : f19_l4_X → Option R) (k0 : Unit → Option R) (k1 : Unit → Option R) : Option R :=
 (cond (decide (a1 < a0))
 (if (0 : Int) ≤ a1 ∧ a1 < ((List.length a2.2.2.1 : Nat) : Int) then (if (0 : Int) ≤ a1 ∧ a1 < ((List.length a3.2.2.1 : Nat) : Int) then (cond (!strEq (b2s (List.getD a2.2.2.1 (Int.toNat a1) ([] : List Int))) (b2s (List.getD a3.2.2.1 (Int.toNat a1) ([] : List Int))))
  (k0 ())
  (let v0 : Int := (IntKind.i64.wrap (a1 + (1 : Int)))
   (kin v0))) else none) else none)
 (k1 ()))
noncomputable def f19_l4_g (a0 : Int) (a2 : (Int × (Int × (List (List Int) × Unit)))) (a3 : (Int × (Int × (List (List Int) × Unit)))) (x : f19_l4_X) : Option (f19_l4_X ⊕ f19_l4_Y) := f19_l4_k a0 x a2 a3 (fun x => some (.inl x)) (fun y => some (.inr (.inl y))) (fun y => some (.inr (.inr y)))
noncomputable def f19_l4 (a0 : Int) (a2 : (Int × (Int × (List (List Int) × Unit)))) (a3 : (Int × (Int × (List (List Int) × Unit)))) (x : f19_l4_X) : Option f19_l4_Y := loopO (f19_l4_g a0 a2 a3) x
noncomputable def f19_l4_nd : Node := { nils := [], sk := f19_l4_sk, outs := f19_l4_outs, Y := f19_l4_Y, L := fun t => f19_l4 ((f19_l4_con t).1) ((f19_l4_con t).2.1) ((f19_l4_con t).2.2.1) (f19_l4_get t), out := fun t y => f19_l4_out (f19_l4_con t) y, disp := fun t y K => (Sum.elim (fun y => K .ret (f19_l4_o0.fill (f19_l4_w0 (f19_l4_con t) y))) (fun y => K (.exit 0) (f19_l4_o1.fill (f19_l4_w1 (f19_l4_con t) y)))) y }
noncomputable def f19_fx : Fx := { E := env, T := [], H := [], nodes := [((true, 4), f19_l4_nd)] }
noncomputable def f19_l4_b : Code := (loops f19_code).getD 0 .skip
theorem f19_l4_r (c : f19_l4_C) (x : f19_l4_X) : roundS f19_fx f19_l4_b f19_l4_nd (f19_l4_put c x) = f19_l4_k c.1 x c.2.1 c.2.2.1 (fun x => some (.inl (f19_l4_put c x))) (fun y => some (.inr (.inl (f19_l4_w0 c y)))) (fun y => some (.inr (.inr (.inl (f19_l4_w1 c y))))) := by kernel_rfl
theorem f19_l4_n {R : Type} (a0 : Int) (a1 : Int) (a2 : (Int × (Int × (List (List Int) × Unit)))) (a3 : (Int × (Int × (List (List Int) × Unit)))) (kin : f19_l4_X → Option R) (k0 : Unit → Option R) (k1 : Unit → Option R) : f19_l4_k a0 a1 a2 a3 kin k0 k1 = (f19_l4_g a0 a2 a3 a1).bind (Sum.elim kin (Sum.elim k0 k1)) := by
  simp only [f19_l4_g, f19_l4_k, cond_bind, ite_bind, bind_bind, some_bind, none_bind, elim_bind, Sum.elim_inl, Sum.elim_inr]
theorem f19_l4_ok : LoopOk f19_fx f19_l4_b f19_l4_nd := loop_ok f19_l4_con f19_l4_get f19_l4_put f19_l4_pg (fun c => f19_l4_g c.1 c.2.1 c.2.2.1) f19_l4_out (fun t y => rfl) (by intro R t y K; rcases y with y | y <;> rfl) (fun c x => by
  refine (f19_l4_r c x).trans ((f19_l4_n _ _ _ _ _ _ _).trans ?_)
  first
  | rfl
  | congr 1
    funext s
    rcases s with s | s | s <;> rfl) (fun t => rfl)
noncomputable def f19_k {R : Type} (a0 : (Int × (Int × (List (List Int) × Unit)))) (a1 : (Int × (Int × (List (List Int) × Unit)))) (k : (Bool × Unit) × (Unit) → Option R) : Option R :=
 (cond (a0.1 != a1.1)
 (k ((false, ()), ()))
 (cond (a0.2.1 != a1.2.1)
  (k ((false, ()), ()))
  (cond (((List.length a0.2.2.1 : Nat) : Int) != ((List.length a1.2.2.1 : Nat) : Int))
   (k ((false, ()), ()))
   ((f19_l4 ((List.length a0.2.2.1 : Nat) : Int) a0 a1 (0 : Int)).bind fun y1 =>
    ((Sum.elim (fun z2 =>
    (k ((false, ()), ())))
    (fun z3 =>
    (k ((true, ()), ())))) y1)))))
noncomputable def f19 (a0 : (Int × (Int × (List (List Int) × Unit)))) (a1 : (Int × (Int × (List (List Int) × Unit)))) : Option ((Bool × Unit) × (Unit)) := f19_k a0 a1 some
noncomputable def f19_sm : Sm := ⟨[.ro (.pair (.int .i64) (.pair (.int .i64) (.pair (.slc (.slc (.int .u8))) .unit))), .ro (.pair (.int .i64) (.pair (.int .i64) (.pair (.slc (.slc (.int .u8))) .unit)))], [(.bool, .ro)], fun x => f19 x.1 x.2.1⟩
theorem f19_m (x : ArgT [.ro (.pair (.int .i64) (.pair (.int .i64) (.pair (.slc (.slc (.int .u8))) .unit))), .ro (.pair (.int .i64) (.pair (.int .i64) (.pair (.slc (.slc (.int .u8))) .unit)))]) : codeS f19_fx f19_code (start [.ro (.pair (.int .i64) (.pair (.int .i64) (.pair (.slc (.slc (.int .u8))) .unit))), .ro (.pair (.int .i64) (.pair (.int .i64) (.pair (.slc (.slc (.int .u8))) .unit)))] [] x 47) (finK env [.tmp 4] [.ro (.pair (.int .i64) (.pair (.int .i64) (.pair (.slc (.slc (.int .u8))) .unit))), .ro (.pair (.int .i64) (.pair (.int .i64) (.pair (.slc (.slc (.int .u8))) .unit)))] [(.bool, .ro)]) = f19_k x.1 x.2.1 (fun r => some (r, [])) := by kernel_rfl
theorem f19_n {R : Type} (a0 : (Int × (Int × (List (List Int) × Unit)))) (a1 : (Int × (Int × (List (List Int) × Unit)))) (k : (Bool × Unit) × (Unit) → Option R) : f19_k a0 a1 k = (f19 a0 a1).bind k := by
  simp only [f19, f19_k, cond_bind, ite_bind, bind_bind, some_bind, none_bind, elim_bind]
theorem f19_f : FnOk Try.prog 19 := ⟨Try.f19, Try.func19, by kernel_rfl, by kernel_rfl⟩
theorem f19_ok : SmOk Try.prog 19 f19_sm :=
  sum_of (c := f19_fx) (fn := Try.f19) (code := f19_code) (sm := f19_sm) mixed (env_ok env_envB) (TabsOk.all trivial) Try.func19 (by kernel_rfl)
   ((LoopsOk.of (l := [f19_l4_b]) (by kernel_rfl) ⟨node_is (by kernel_rfl) f19_l4_ok, trivial⟩))
   (no_tails (by kernel_rfl))
   (fun ks x hl => by
    have hk : ks = [] := List.length_eq_zero_iff.1 hl
    subst hk
    exact (f19_m x).trans (f19_n _ _ _))
/-! slices.Clone[[][]byte,[]byte] -/
noncomputable def f75_code : Code := (Try.f75.body).getD .skip
noncomputable def f75_fx : Fx := { E := env, T := [], H := [], nodes := [] }
noncomputable def f75_k {R : Type} (a0 : List (List Int)) (k : (List (List Int) × Unit) × (Unit) → Option R) : Option R :=
 (nilT (List.isEmpty a0)
 (k (([], ()), ()))
 (if (0 + List.length a0) * 24 ≤ most ∧ 0 < 24 ∧ 0 < 1 then (let r0 : List (List Int) := ([] ++ a0)
  (k ((r0, ()), ()))) else none))
noncomputable def f75 (a0 : List (List Int)) : Option ((List (List Int) × Unit) × (Unit)) := f75_k a0 some
noncomputable def f75_sm : Sm := ⟨[.ro (.slc (.slc (.int .u8)))], [((.slc (.slc (.int .u8))), (.own .ro))], fun x => f75 x.1⟩
theorem f75_m (x : ArgT [.ro (.slc (.slc (.int .u8)))]) : codeS f75_fx f75_code (start [.ro (.slc (.slc (.int .u8)))] [] x 8) (finK env [.tmp 2] [.ro (.slc (.slc (.int .u8)))] [((.slc (.slc (.int .u8))), (.own .ro))]) = f75_k x.1 (fun r => some (r, [])) := by kernel_rfl
theorem f75_n {R : Type} (a0 : List (List Int)) (k : (List (List Int) × Unit) × (Unit) → Option R) : f75_k a0 k = (f75 a0).bind k := by
  simp only [f75, f75_k, cond_bind, ite_bind, bind_bind, some_bind, none_bind, elim_bind]
  rcases a0 with _ | ⟨x, l⟩ <;> simp [nilT, ite_bind, most]
theorem f75_f : FnOk Try.prog 75 := ⟨Try.f75, Try.func75, by kernel_rfl, by kernel_rfl⟩
theorem f75_ok : SmOk Try.prog 75 f75_sm :=
  sum_of (c := f75_fx) (fn := Try.f75) (code := f75_code) (sm := f75_sm) mixed (env_ok env_envB) (TabsOk.all trivial) Try.func75 (by kernel_rfl)
   ((LoopsOk.of (l := []) (by kernel_rfl) trivial))
   (no_tails (by kernel_rfl))
   (fun ks x hl => by
    have hk : ks = [] := List.length_eq_zero_iff.1 hl
    subst hk
    exact (f75_m x).trans (f75_n _ _))
/-! slices.Clone[[]byte,byte] -/
noncomputable def f76_code : Code := (Try.f76.body).getD .skip
noncomputable def f76_fx : Fx := { E := env, T := [], H := [], nodes := [] }
noncomputable def f76_k {R : Type} (a0 : List Int) (k : (List Int × Unit) × (Unit) → Option R) : Option R :=
 (nilT (List.isEmpty a0)
 (k (([], ()), ()))
 (if (0 + List.length a0) * 1 ≤ most ∧ 0 < 1 ∧ 0 < 1 then (let r0 : List Int := ([] ++ a0)
  (k ((r0, ()), ()))) else none))
noncomputable def f76 (a0 : List Int) : Option ((List Int × Unit) × (Unit)) := f76_k a0 some
noncomputable def f76_sm : Sm := ⟨[.ro (.slc (.int .u8))], [((.slc (.int .u8)), (.own .ro))], fun x => f76 x.1⟩
theorem f76_m (x : ArgT [.ro (.slc (.int .u8))]) : codeS f76_fx f76_code (start [.ro (.slc (.int .u8))] [] x 8) (finK env [.tmp 2] [.ro (.slc (.int .u8))] [((.slc (.int .u8)), (.own .ro))]) = f76_k x.1 (fun r => some (r, [])) := by kernel_rfl
theorem f76_n {R : Type} (a0 : List Int) (k : (List Int × Unit) × (Unit) → Option R) : f76_k a0 k = (f76 a0).bind k := by
  simp only [f76, f76_k, cond_bind, ite_bind, bind_bind, some_bind, none_bind, elim_bind]
  rcases a0 with _ | ⟨x, l⟩ <;> simp [nilT, ite_bind, most]
theorem f76_f : FnOk Try.prog 76 := ⟨Try.f76, Try.func76, by kernel_rfl, by kernel_rfl⟩
theorem f76_ok : SmOk Try.prog 76 f76_sm :=
  sum_of (c := f76_fx) (fn := Try.f76) (code := f76_code) (sm := f76_sm) mixed (env_ok env_envB) (TabsOk.all trivial) Try.func76 (by kernel_rfl)
   ((LoopsOk.of (l := []) (by kernel_rfl) trivial))
   (no_tails (by kernel_rfl))
   (fun ks x hl => by
    have hk : ks = [] := List.length_eq_zero_iff.1 hl
    subst hk
    exact (f76_m x).trans (f76_n _ _))
/-! bakelite/image.Copy -/
noncomputable def f20_code : Code := (Try.f20.body).getD .skip
noncomputable def f20_l3_sk : SkS := ⟨[.undef, .ptr 16 [], .ptr 32 [], .undef, .undef, .undef, .undef, .undef, .undef, .undef, .con (.int .i64), .con (.int .i64), .undef, .undef, .undef, .undef, .undef, .undef, .undef, .undef, .undef, .undef, .undef, .undef, .undef, .undef], [(16, ⟨some 24, (.pair (.int .i64) (.pair (.int .i64) (.pair (.slc (.slc (.int .u8))) .unit))), (.pair .ro (.pair .ro (.pair (.own .ro) .ro)))⟩), (32, ⟨some 24, (.pair (.int .i64) (.pair (.int .i64) (.pair (.slc (.slc (.int .u8))) .unit))), (.pair .ro (.pair .ro (.pair (.own .ro) .ro)))⟩)]⟩
noncomputable def f20_l3_o0 : SkS := ⟨[.undef, .ptr 16 [], .ptr 32 [], .undef, .undef, .undef, .undef, .undef, .undef, .undef, .undef, .undef, .undef, .undef, .undef, .undef, .undef, .undef, .undef, .undef, .undef, .undef, .undef, .undef, .undef, .undef], [(16, ⟨some 24, (.pair (.int .i64) (.pair (.int .i64) (.pair (.slc (.slc (.int .u8))) .unit))), (.pair .ro (.pair .ro (.pair (.own .ro) .ro)))⟩), (32, ⟨some 24, (.pair (.int .i64) (.pair (.int .i64) (.pair (.slc (.slc (.int .u8))) .unit))), (.pair .ro (.pair .ro (.pair (.own .ro) .ro)))⟩)]⟩
noncomputable def f20_l3_outs : List Way := [⟨(.exit 0), [], f20_l3_o0⟩]
abbrev f20_l3_C := (Int × (Int × (Int × (List (List Int) × Unit))) × (Option Nat) × (Option Nat))
abbrev f20_l3_X := (Int × (Int × (Int × (List (List Int) × Unit))))
abbrev f20_l3_Y := ((Int × (Int × (List (List Int) × Unit))))
noncomputable def f20_l3_con (t : f20_l3_sk.T) : f20_l3_C := (t.1.2.2.2.2.2.2.2.2.2.2.1, t.2.2.1.1, t.2.1.2, t.2.2.1.2)
noncomputable def f20_l3_get (t : f20_l3_sk.T) : f20_l3_X := (t.1.2.2.2.2.2.2.2.2.2.2.2.1, t.2.1.1)
noncomputable def f20_l3_put (c : f20_l3_C) (x : f20_l3_X) : f20_l3_sk.T := (((), ((), ((), ((), ((), ((), ((), ((), ((), ((), (c.1, (x.1, ((), ((), ((), ((), ((), ((), ((), ((), ((), ((), ((), ((), ((), ((), ())))))))))))))))))))))))))), ((x.2, c.2.2.1), ((c.2.1, c.2.2.2), ())))
theorem f20_l3_pg (t : f20_l3_sk.T) : f20_l3_put (f20_l3_con t) (f20_l3_get t) = t := by kernel_rfl
noncomputable def f20_l3_w0 (c : f20_l3_C) (y : (Int × (Int × (List (List Int) × Unit)))) : f20_l3_o0.T := (((), ((), ((), ((), ((), ((), ((), ((), ((), ((), ((), ((), ((), ((), ((), ((), ((), ((), ((), ((), ((), ((), ((), ((), ((), ((), ())))))))))))))))))))))))))), ((y, c.2.2.1), ((c.2.1, c.2.2.2), ())))
noncomputable def f20_l3_out (c : f20_l3_C) (y : f20_l3_Y) : OutV f20_l3_outs := (fun y => (.inl (f20_l3_w0 c y))) y
noncomputable def f20_l3_k {R : Type} (a0 : Int) (a1 : Int) (a2 : (Int × (Int × (List (List Int) × Unit)))) (a3 : (Int × (Int × (List (List Int) × Unit)))) (kin : f20_l3_X → Option R) (k0 : (Int × (Int × (List (List Int) × Unit))) → Option R) : Option R :=
 (cond (decide (a1 < a0))
 (if (0 : Int) ≤ a1 ∧ a1 < ((List.length a2.2.2.1 : Nat) : Int) then ((f76 (List.getD a2.2.2.1 (Int.toNat a1) ([] : List Int))).bind fun r1 =>
  (if (0 : Int) ≤ a1 ∧ a1 < ((List.length a2.2.2.1 : Nat) : Int) then (let v2 : Int := (IntKind.i64.wrap (a1 + (1 : Int)))
  (kin (v2, (a2.1, (a2.2.1, ((List.set a2.2.2.1 (Int.toNat a1) r1.1.1), a2.2.2.2)))))) else none)) else none)
 (k0 a2))
noncomputable def f20_l3_g (a0 : Int) (a3 : (Int × (Int × (List (List Int) × Unit)))) (x : f20_l3_X) : Option (f20_l3_X ⊕ f20_l3_Y) := f20_l3_k a0 x.1 x.2 a3 (fun x => some (.inl x)) (fun y => some (.inr y))
noncomputable def f20_l3 (a0 : Int) (a3 : (Int × (Int × (List (List Int) × Unit)))) (x : f20_l3_X) : Option f20_l3_Y := loopO (f20_l3_g a0 a3) x
noncomputable def f20_l3_nd : Node := { nils := [], sk := f20_l3_sk, outs := f20_l3_outs, Y := f20_l3_Y, L := fun t => f20_l3 ((f20_l3_con t).1) ((f20_l3_con t).2.1) (f20_l3_get t), out := fun t y => f20_l3_out (f20_l3_con t) y, disp := fun t y K => (fun y => K (.exit 0) (f20_l3_o0.fill (f20_l3_w0 (f20_l3_con t) y))) y }
noncomputable def f20_fx : Fx := { E := env, T := [(75, f75_sm), (76, f76_sm)], H := [], nodes := [((true, 3), f20_l3_nd)] }
noncomputable def f20_l3_b : Code := (loops f20_code).getD 0 .skip
theorem f20_l3_r (c : f20_l3_C) (x : f20_l3_X) : roundS f20_fx f20_l3_b f20_l3_nd (f20_l3_put c x) = f20_l3_k c.1 x.1 x.2 c.2.1 (fun x => some (.inl (f20_l3_put c x))) (fun y => some (.inr (.inl (f20_l3_w0 c y)))) := by kernel_rfl
theorem f20_l3_n {R : Type} (a0 : Int) (a1 : Int) (a2 : (Int × (Int × (List (List Int) × Unit)))) (a3 : (Int × (Int × (List (List Int) × Unit)))) (kin : f20_l3_X → Option R) (k0 : (Int × (Int × (List (List Int) × Unit))) → Option R) : f20_l3_k a0 a1 a2 a3 kin k0 = (f20_l3_g a0 a3 (a1, a2)).bind (Sum.elim kin k0) := by
  simp only [f20_l3_g, f20_l3_k, cond_bind, ite_bind, bind_bind, some_bind, none_bind, elim_bind, Sum.elim_inl, Sum.elim_inr]
theorem f20_l3_ok : LoopOk f20_fx f20_l3_b f20_l3_nd := loop_ok f20_l3_con f20_l3_get f20_l3_put f20_l3_pg (fun c => f20_l3_g c.1 c.2.1) f20_l3_out (fun t y => rfl) (fun t y K => rfl) (fun c x => by
  refine (f20_l3_r c x).trans ((f20_l3_n _ _ _ _ _ _).trans ?_)
  first
  | rfl
  | congr 1
    funext s
    rcases s with s | s <;> rfl) (fun t => rfl)
noncomputable def f20_k {R : Type} (a0 : (Int × (Int × (List (List Int) × Unit)))) (k : ((Int × (Int × (List (List Int) × Unit))) × Unit) × (Unit) → Option R) : Option R :=
 ((f75 a0.2.2.1).bind fun r0 =>
 ((f20_l3 ((List.length r0.1.1 : Nat) : Int) ((0 : Int), ((0 : Int), (([] : List (List Int)), ()))) ((0 : Int), (a0.1, (a0.2.1, (r0.1.1, a0.2.2.2))))).bind fun y3 =>
 (k ((y3, ()), ()))))
noncomputable def f20 (a0 : (Int × (Int × (List (List Int) × Unit)))) : Option (((Int × (Int × (List (List Int) × Unit))) × Unit) × (Unit)) := f20_k a0 some
noncomputable def f20_sm : Sm := ⟨[.ro (.pair (.int .i64) (.pair (.int .i64) (.pair (.slc (.slc (.int .u8))) .unit)))], [((.pair (.int .i64) (.pair (.int .i64) (.pair (.slc (.slc (.int .u8))) .unit))), (.pair .ro (.pair .ro (.pair (.own .ro) .ro))))], fun x => f20 x.1⟩
theorem f20_m (x : ArgT [.ro (.pair (.int .i64) (.pair (.int .i64) (.pair (.slc (.slc (.int .u8))) .unit)))]) : codeS f20_fx f20_code (start [.ro (.pair (.int .i64) (.pair (.int .i64) (.pair (.slc (.slc (.int .u8))) .unit)))] [] x 26) (finK env [.cell 2 24] [.ro (.pair (.int .i64) (.pair (.int .i64) (.pair (.slc (.slc (.int .u8))) .unit)))] [((.pair (.int .i64) (.pair (.int .i64) (.pair (.slc (.slc (.int .u8))) .unit))), (.pair .ro (.pair .ro (.pair (.own .ro) .ro))))]) = f20_k x.1 (fun r => some (r, [])) := by kernel_rfl
theorem f20_n {R : Type} (a0 : (Int × (Int × (List (List Int) × Unit)))) (k : ((Int × (Int × (List (List Int) × Unit))) × Unit) × (Unit) → Option R) : f20_k a0 k = (f20 a0).bind k := by
  simp only [f20, f20_k, cond_bind, ite_bind, bind_bind, some_bind, none_bind, elim_bind]
theorem f20_f : FnOk Try.prog 20 := ⟨Try.f20, Try.func20, by kernel_rfl, by kernel_rfl⟩
theorem f20_ok : SmOk Try.prog 20 f20_sm :=
  sum_of (c := f20_fx) (fn := Try.f20) (code := f20_code) (sm := f20_sm) mixed (env_ok env_envB) (TabsOk.all ⟨⟨f75_ok, f75_f⟩, ⟨f76_ok, f76_f⟩, trivial⟩) Try.func20 (by kernel_rfl)
   ((LoopsOk.of (l := [f20_l3_b]) (by kernel_rfl) ⟨node_is (by kernel_rfl) f20_l3_ok, trivial⟩))
   (no_tails (by kernel_rfl))
   (fun ks x hl => by
    have hk : ks = [] := List.length_eq_zero_iff.1 hl
    subst hk
    exact (f20_m x).trans (f20_n _ _))
/-! bakelite/image.place -/
noncomputable def f78_code : Code := (Try.f78.body).getD .skip
noncomputable def f78_fx : Fx := { E := env, T := [(16, f16_sm)], H := [], nodes := [] }
noncomputable def f78_k {R : Type} (a0 : (Int × (Int × (List (List Int) × Unit)))) (a1 : Int) (a2 : Int) (k : (Int × Int × Unit) × (Unit) → Option R) : Option R :=
 ((f16 a0).bind fun r0 =>
 (cond (r0.1.1 != (0 : Int))
 (k (((0 : Int), (r0.1.1, ())), ()))
 (cond (decide (a1 < (0 : Int)))
  (k (((0 : Int), ((19 : Int), ())), ()))
  (cond (decide (a1 ≥ a0.1))
   (k (((0 : Int), ((19 : Int), ())), ()))
   (cond (decide (a2 < (0 : Int)))
    (k (((0 : Int), ((19 : Int), ())), ()))
    (cond (decide (a2 ≥ a0.2.1))
     (k (((0 : Int), ((19 : Int), ())), ()))
     (let v1 : Int := (IntKind.i64.wrap (a1 * a0.2.1))
      (let v2 : Int := (IntKind.i64.wrap (v1 + a2))
      (k ((v2, ((0 : Int), ())), ()))))))))))
noncomputable def f78 (a0 : (Int × (Int × (List (List Int) × Unit)))) (a1 : Int) (a2 : Int) : Option ((Int × Int × Unit) × (Unit)) := f78_k a0 a1 a2 some
noncomputable def f78_sm : Sm := ⟨[.ro (.pair (.int .i64) (.pair (.int .i64) (.pair (.slc (.slc (.int .u8))) .unit))), .ro (.int .i64), .ro (.int .i64)], [((.int .i64), .ro), ((.int .i64), .ro)], fun x => f78 x.1 x.2.1 x.2.2.1⟩
theorem f78_m (x : ArgT [.ro (.pair (.int .i64) (.pair (.int .i64) (.pair (.slc (.slc (.int .u8))) .unit))), .ro (.int .i64), .ro (.int .i64)]) : codeS f78_fx f78_code (start [.ro (.pair (.int .i64) (.pair (.int .i64) (.pair (.slc (.slc (.int .u8))) .unit))), .ro (.int .i64), .ro (.int .i64)] [] x 38) (finK env [.tmp 6, .tmp 7] [.ro (.pair (.int .i64) (.pair (.int .i64) (.pair (.slc (.slc (.int .u8))) .unit))), .ro (.int .i64), .ro (.int .i64)] [((.int .i64), .ro), ((.int .i64), .ro)]) = f78_k x.1 x.2.1 x.2.2.1 (fun r => some (r, [])) := by kernel_rfl
theorem f78_n {R : Type} (a0 : (Int × (Int × (List (List Int) × Unit)))) (a1 : Int) (a2 : Int) (k : (Int × Int × Unit) × (Unit) → Option R) : f78_k a0 a1 a2 k = (f78 a0 a1 a2).bind k := by
  simp only [f78, f78_k, cond_bind, ite_bind, bind_bind, some_bind, none_bind, elim_bind]
theorem f78_f : FnOk Try.prog 78 := ⟨Try.f78, Try.func78, by kernel_rfl, by kernel_rfl⟩
theorem f78_ok : SmOk Try.prog 78 f78_sm :=
  sum_of (c := f78_fx) (fn := Try.f78) (code := f78_code) (sm := f78_sm) mixed (env_ok env_envB) (TabsOk.all ⟨⟨f16_ok, f16_f⟩, trivial⟩) Try.func78 (by kernel_rfl)
   ((LoopsOk.of (l := []) (by kernel_rfl) trivial))
   (no_tails (by kernel_rfl))
   (fun ks x hl => by
    have hk : ks = [] := List.length_eq_zero_iff.1 hl
    subst hk
    exact (f78_m x).trans (f78_n _ _ _ _))
/-! bakelite/image.Get -/
noncomputable def f25_code : Code := (Try.f25.body).getD .skip
noncomputable def f25_fx : Fx := { E := env, T := [(78, f78_sm), (76, f76_sm)], H := [], nodes := [] }
noncomputable def f25_k {R : Type} (a0 : (Int × (Int × (List (List Int) × Unit)))) (a1 : Int) (a2 : Int) (k : (List Int × Int × Unit) × (Unit) → Option R) : Option R :=
 ((f78 a0 a1 a2).bind fun r0 =>
 (cond (r0.1.2.1 != (0 : Int))
 (k (([], (r0.1.2.1, ())), ()))
 (if (0 : Int) ≤ r0.1.1 ∧ r0.1.1 < ((List.length a0.2.2.1 : Nat) : Int) then ((f76 (List.getD a0.2.2.1 (Int.toNat r0.1.1) ([] : List Int))).bind fun r1 =>
  (k ((r1.1.1, ((0 : Int), ())), ()))) else none)))
noncomputable def f25 (a0 : (Int × (Int × (List (List Int) × Unit)))) (a1 : Int) (a2 : Int) : Option ((List Int × Int × Unit) × (Unit)) := f25_k a0 a1 a2 some
noncomputable def f25_sm : Sm := ⟨[.ro (.pair (.int .i64) (.pair (.int .i64) (.pair (.slc (.slc (.int .u8))) .unit))), .ro (.int .i64), .ro (.int .i64)], [((.slc (.int .u8)), (.own .ro)), ((.int .i64), .ro)], fun x => f25 x.1 x.2.1 x.2.2.1⟩
theorem f25_m (x : ArgT [.ro (.pair (.int .i64) (.pair (.int .i64) (.pair (.slc (.slc (.int .u8))) .unit))), .ro (.int .i64), .ro (.int .i64)]) : codeS f25_fx f25_code (start [.ro (.pair (.int .i64) (.pair (.int .i64) (.pair (.slc (.slc (.int .u8))) .unit))), .ro (.int .i64), .ro (.int .i64)] [] x 26) (finK env [.tmp 6, .tmp 7] [.ro (.pair (.int .i64) (.pair (.int .i64) (.pair (.slc (.slc (.int .u8))) .unit))), .ro (.int .i64), .ro (.int .i64)] [((.slc (.int .u8)), (.own .ro)), ((.int .i64), .ro)]) = f25_k x.1 x.2.1 x.2.2.1 (fun r => some (r, [])) := by kernel_rfl
theorem f25_n {R : Type} (a0 : (Int × (Int × (List (List Int) × Unit)))) (a1 : Int) (a2 : Int) (k : (List Int × Int × Unit) × (Unit) → Option R) : f25_k a0 a1 a2 k = (f25 a0 a1 a2).bind k := by
  simp only [f25, f25_k, cond_bind, ite_bind, bind_bind, some_bind, none_bind, elim_bind]
theorem f25_f : FnOk Try.prog 25 := ⟨Try.f25, Try.func25, by kernel_rfl, by kernel_rfl⟩
theorem f25_ok : SmOk Try.prog 25 f25_sm :=
  sum_of (c := f25_fx) (fn := Try.f25) (code := f25_code) (sm := f25_sm) mixed (env_ok env_envB) (TabsOk.all ⟨⟨f78_ok, f78_f⟩, ⟨f76_ok, f76_f⟩, trivial⟩) Try.func25 (by kernel_rfl)
   ((LoopsOk.of (l := []) (by kernel_rfl) trivial))
   (no_tails (by kernel_rfl))
   (fun ks x hl => by
    have hk : ks = [] := List.length_eq_zero_iff.1 hl
    subst hk
    exact (f25_m x).trans (f25_n _ _ _ _))
/-! bakelite/bakelaw2.ImageSectors$1 -/
noncomputable def f23_code : Code := (Try.f23.body).getD .skip
noncomputable def f23_fx : Fx := { E := env, T := [(24, f24_sm)], H := [], nodes := [] }
noncomputable def f23_k {R : Type} (a0 : List Int) (k : (Bool × Unit) × (Unit) → Option R) : Option R :=
 ((f24 a0 (List.replicate 128 (0 : Int))).bind fun r0 =>
 (k (((!r0.1.1), ()), ())))
noncomputable def f23 (a0 : List Int) : Option ((Bool × Unit) × (Unit)) := f23_k a0 some
noncomputable def f23_sm : Sm := ⟨[.ro (.slc (.int .u8))], [(.bool, .ro)], fun x => f23 x.1⟩
theorem f23_m (x : ArgT [.ro (.slc (.int .u8))]) : codeS f23_fx f23_code (start [.ro (.slc (.int .u8))] [] x 7) (finK env [.tmp 2] [.ro (.slc (.int .u8))] [(.bool, .ro)]) = f23_k x.1 (fun r => some (r, [])) := by kernel_rfl
theorem f23_n {R : Type} (a0 : List Int) (k : (Bool × Unit) × (Unit) → Option R) : f23_k a0 k = (f23 a0).bind k := by
  simp only [f23, f23_k, cond_bind, ite_bind, bind_bind, some_bind, none_bind, elim_bind]
theorem f23_f : FnOk Try.prog 23 := ⟨Try.f23, Try.func23, by kernel_rfl, by kernel_rfl⟩
theorem f23_ok : SmOk Try.prog 23 f23_sm :=
  sum_of (c := f23_fx) (fn := Try.f23) (code := f23_code) (sm := f23_sm) mixed (env_ok env_envB) (TabsOk.all ⟨⟨f24_ok, f24_f⟩, trivial⟩) Try.func23 (by kernel_rfl)
   ((LoopsOk.of (l := []) (by kernel_rfl) trivial))
   (no_tails (by kernel_rfl))
   (fun ks x hl => by
    have hk : ks = [] := List.length_eq_zero_iff.1 hl
    subst hk
    exact (f23_m x).trans (f23_n _ _))
/-! slices.IndexFunc[[][]byte,[]byte] -/
noncomputable def f77x1_code : Code := (Try.f77.body).getD .skip
noncomputable def f77x1_l2_sk : SkS := ⟨[.con (.slc (.slc (.int .u8))), .fn 23 (.tnil), .undef, .undef, .undef, .undef, .undef, .con (.int .i64), .con (.int .i64), .undef, .undef, .undef, .undef, .undef, .undef, .undef, .undef, .undef, .undef], []⟩
noncomputable def f77x1_l2_o0 : SkS := ⟨[.undef, .undef, .undef, .undef, .con (.int .i64), .undef, .undef, .undef, .undef, .undef, .undef, .undef, .undef, .undef, .undef, .undef, .undef, .undef, .undef], []⟩
noncomputable def f77x1_l2_o1 : SkS := ⟨[.undef, .undef, .undef, .undef, .undef, .undef, .undef, .undef, .undef, .undef, .undef, .undef, .undef, .undef, .undef, .undef, .undef, .undef, .undef], []⟩
noncomputable def f77x1_l2_outs : List Way := [⟨.ret, [], f77x1_l2_o0⟩, ⟨(.exit 0), [], f77x1_l2_o1⟩]
abbrev f77x1_l2_C := (List (List Int) × Int)
abbrev f77x1_l2_X := Int
abbrev f77x1_l2_Y := (Int) ⊕ (Unit)
noncomputable def f77x1_l2_con (t : f77x1_l2_sk.T) : f77x1_l2_C := (t.1.1, t.1.2.2.2.2.2.2.2.1)
noncomputable def f77x1_l2_get (t : f77x1_l2_sk.T) : f77x1_l2_X := t.1.2.2.2.2.2.2.2.2.1
noncomputable def f77x1_l2_put (c : f77x1_l2_C) (x : f77x1_l2_X) : f77x1_l2_sk.T := ((c.1, ((), ((), ((), ((), ((), ((), (c.2, (x, ((), ((), ((), ((), ((), ((), ((), ((), ((), ((), ()))))))))))))))))))), ())
theorem f77x1_l2_pg (t : f77x1_l2_sk.T) : f77x1_l2_put (f77x1_l2_con t) (f77x1_l2_get t) = t := by kernel_rfl
noncomputable def f77x1_l2_w0 (c : f77x1_l2_C) (y : Int) : f77x1_l2_o0.T := (((), ((), ((), ((), (y, ((), ((), ((), ((), ((), ((), ((), ((), ((), ((), ((), ((), ((), ((), ()))))))))))))))))))), ())
noncomputable def f77x1_l2_w1 (c : f77x1_l2_C) (y : Unit) : f77x1_l2_o1.T := (((), ((), ((), ((), ((), ((), ((), ((), ((), ((), ((), ((), ((), ((), ((), ((), ((), ((), ((), ()))))))))))))))))))), ())
noncomputable def f77x1_l2_out (c : f77x1_l2_C) (y : f77x1_l2_Y) : OutV f77x1_l2_outs := (Sum.elim (fun y => (.inl (f77x1_l2_w0 c y))) (fun y => (.inr (.inl (f77x1_l2_w1 c y))))) y
noncomputable def f77x1_l2_k {R : Type} (a0 : List (List Int)) (a1 : Int) (a2 : Int) (kin : f77x1_l2_X → Option R) (k0 : Int → Option R) (k1 : Unit → Option R) : Option R :=
 (cond (decide (a2 < a1))
 (if (0 : Int) ≤ a2 ∧ a2 < ((List.length a0 : Nat) : Int) then ((f23 (List.getD a0 (Int.toNat a2) ([] : List Int))).bind fun r0 =>
  (cond r0.1.1
  (k0 a2)
  (let v1 : Int := (IntKind.i64.wrap (a2 + (1 : Int)))
   (kin v1)))) else none)
 (k1 ()))
noncomputable def f77x1_l2_g (a0 : List (List Int)) (a1 : Int) (x : f77x1_l2_X) : Option (f77x1_l2_X ⊕ f77x1_l2_Y) := f77x1_l2_k a0 a1 x (fun x => some (.inl x)) (fun y => some (.inr (.inl y))) (fun y => some (.inr (.inr y)))
noncomputable def f77x1_l2 (a0 : List (List Int)) (a1 : Int) (x : f77x1_l2_X) : Option f77x1_l2_Y := loopO (f77x1_l2_g a0 a1) x
noncomputable def f77x1_l2_nd : Node := { nils := [], sk := f77x1_l2_sk, outs := f77x1_l2_outs, Y := f77x1_l2_Y, L := fun t => f77x1_l2 ((f77x1_l2_con t).1) ((f77x1_l2_con t).2) (f77x1_l2_get t), out := fun t y => f77x1_l2_out (f77x1_l2_con t) y, disp := fun t y K => (Sum.elim (fun y => K .ret (f77x1_l2_o0.fill (f77x1_l2_w0 (f77x1_l2_con t) y))) (fun y => K (.exit 0) (f77x1_l2_o1.fill (f77x1_l2_w1 (f77x1_l2_con t) y)))) y }
noncomputable def f77x1_fx : Fx := { E := env, T := [(23, f23_sm)], H := [], nodes := [((true, 2), f77x1_l2_nd)] }
noncomputable def f77x1_l2_b : Code := (loops f77x1_code).getD 0 .skip
theorem f77x1_l2_r (c : f77x1_l2_C) (x : f77x1_l2_X) : roundS f77x1_fx f77x1_l2_b f77x1_l2_nd (f77x1_l2_put c x) = f77x1_l2_k c.1 c.2 x (fun x => some (.inl (f77x1_l2_put c x))) (fun y => some (.inr (.inl (f77x1_l2_w0 c y)))) (fun y => some (.inr (.inr (.inl (f77x1_l2_w1 c y))))) := by kernel_rfl
theorem f77x1_l2_n {R : Type} (a0 : List (List Int)) (a1 : Int) (a2 : Int) (kin : f77x1_l2_X → Option R) (k0 : Int → Option R) (k1 : Unit → Option R) : f77x1_l2_k a0 a1 a2 kin k0 k1 = (f77x1_l2_g a0 a1 a2).bind (Sum.elim kin (Sum.elim k0 k1)) := by
  simp only [f77x1_l2_g, f77x1_l2_k, cond_bind, ite_bind, bind_bind, some_bind, none_bind, elim_bind, Sum.elim_inl, Sum.elim_inr]
theorem f77x1_l2_ok : LoopOk f77x1_fx f77x1_l2_b f77x1_l2_nd := loop_ok f77x1_l2_con f77x1_l2_get f77x1_l2_put f77x1_l2_pg (fun c => f77x1_l2_g c.1 c.2) f77x1_l2_out (fun t y => rfl) (by intro R t y K; rcases y with y | y <;> rfl) (fun c x => by
  refine (f77x1_l2_r c x).trans ((f77x1_l2_n _ _ _ _ _ _).trans ?_)
  first
  | rfl
  | congr 1
    funext s
    rcases s with s | s | s <;> rfl) (fun t => rfl)
noncomputable def f77x1_k {R : Type} (a0 : List (List Int)) (a1 : (Unit)) (k : (Int × Unit) × (Unit) → Option R) : Option R :=
 ((f77x1_l2 a0 ((List.length a0 : Nat) : Int) (0 : Int)).bind fun y2 =>
 ((Sum.elim (fun z3 =>
 (k ((z3, ()), ())))
 (fun z4 =>
 (k (((-1 : Int), ()), ())))) y2))
noncomputable def f77x1 (a0 : List (List Int)) (a1 : (Unit)) : Option ((Int × Unit) × (Unit)) := f77x1_k a0 a1 some
noncomputable def f77x1_sm : Sm := ⟨[.ro (.slc (.slc (.int .u8))), .fn 23 []], [((.int .i64), .ro)], fun x => f77x1 x.1 x.2.1⟩
theorem f77x1_m (x : ArgT [.ro (.slc (.slc (.int .u8))), .fn 23 []]) : codeS f77x1_fx f77x1_code (start [.ro (.slc (.slc (.int .u8))), .fn 23 []] [] x 19) (finK env [.tmp 4] [.ro (.slc (.slc (.int .u8))), .fn 23 []] [((.int .i64), .ro)]) = f77x1_k x.1 x.2.1 (fun r => some (r, [])) := by kernel_rfl
theorem f77x1_n {R : Type} (a0 : List (List Int)) (a1 : (Unit)) (k : (Int × Unit) × (Unit) → Option R) : f77x1_k a0 a1 k = (f77x1 a0 a1).bind k := by
  simp only [f77x1, f77x1_k, cond_bind, ite_bind, bind_bind, some_bind, none_bind, elim_bind]
theorem f77x1_f : FnOk Try.prog 77 := ⟨Try.f77, Try.func77, by kernel_rfl, by kernel_rfl⟩
theorem f77x1_ok : SmOk Try.prog 77 f77x1_sm :=
  sum_of (c := f77x1_fx) (fn := Try.f77) (code := f77x1_code) (sm := f77x1_sm) mixed (env_ok env_envB) (TabsOk.all ⟨⟨f23_ok, f23_f⟩, trivial⟩) Try.func77 (by kernel_rfl)
   ((LoopsOk.of (l := [f77x1_l2_b]) (by kernel_rfl) ⟨node_is (by kernel_rfl) f77x1_l2_ok, trivial⟩))
   (no_tails (by kernel_rfl))
   (fun ks x hl => by
    have hk : ks = [] := List.length_eq_zero_iff.1 hl
    subst hk
    exact (f77x1_m x).trans (f77x1_n _ _ _))
/-! slices.ContainsFunc[[][]byte,[]byte] -/
noncomputable def f22x1_code : Code := (Try.f22.body).getD .skip
noncomputable def f22x1_fx : Fx := { E := env, T := [(77, f77x1_sm)], H := [], nodes := [] }
noncomputable def f22x1_k {R : Type} (a0 : List (List Int)) (a1 : (Unit)) (k : (Bool × Unit) × (Unit) → Option R) : Option R :=
 ((f77x1 a0 ()).bind fun r0 =>
 (k (((decide (r0.1.1 ≥ (0 : Int))), ()), ())))
noncomputable def f22x1 (a0 : List (List Int)) (a1 : (Unit)) : Option ((Bool × Unit) × (Unit)) := f22x1_k a0 a1 some
noncomputable def f22x1_sm : Sm := ⟨[.ro (.slc (.slc (.int .u8))), .fn 23 []], [(.bool, .ro)], fun x => f22x1 x.1 x.2.1⟩
theorem f22x1_m (x : ArgT [.ro (.slc (.slc (.int .u8))), .fn 23 []]) : codeS f22x1_fx f22x1_code (start [.ro (.slc (.slc (.int .u8))), .fn 23 []] [] x 9) (finK env [.tmp 4] [.ro (.slc (.slc (.int .u8))), .fn 23 []] [(.bool, .ro)]) = f22x1_k x.1 x.2.1 (fun r => some (r, [])) := by kernel_rfl
theorem f22x1_n {R : Type} (a0 : List (List Int)) (a1 : (Unit)) (k : (Bool × Unit) × (Unit) → Option R) : f22x1_k a0 a1 k = (f22x1 a0 a1).bind k := by
  simp only [f22x1, f22x1_k, cond_bind, ite_bind, bind_bind, some_bind, none_bind, elim_bind]
theorem f22x1_f : FnOk Try.prog 22 := ⟨Try.f22, Try.func22, by kernel_rfl, by kernel_rfl⟩
theorem f22x1_ok : SmOk Try.prog 22 f22x1_sm :=
  sum_of (c := f22x1_fx) (fn := Try.f22) (code := f22x1_code) (sm := f22x1_sm) mixed (env_ok env_envB) (TabsOk.all ⟨⟨f77x1_ok, f77x1_f⟩, trivial⟩) Try.func22 (by kernel_rfl)
   ((LoopsOk.of (l := []) (by kernel_rfl) trivial))
   (no_tails (by kernel_rfl))
   (fun ks x hl => by
    have hk : ks = [] := List.length_eq_zero_iff.1 hl
    subst hk
    exact (f22x1_m x).trans (f22x1_n _ _ _))
/-! bakelite/image.Put -/
noncomputable def f26_code : Code := (Try.f26.body).getD .skip
noncomputable def f26_fx : Fx := { E := env, T := [(78, f78_sm), (20, f20_sm), (76, f76_sm)], H := [], nodes := [] }
noncomputable def f26_k {R : Type} (a0 : (Int × (Int × (List (List Int) × Unit)))) (a1 : Int) (a2 : Int) (a3 : List Int) (k : ((Int × (Int × (List (List Int) × Unit))) × Int × Unit) × (Unit) → Option R) : Option R :=
 ((f78 a0 a1 a2).bind fun r0 =>
 (cond (r0.1.2.1 != (0 : Int))
 (k ((((0 : Int), ((0 : Int), ([], ()))), (r0.1.2.1, ())), ()))
 (cond (((List.length a3 : Nat) : Int) != (128 : Int))
  (k ((((0 : Int), ((0 : Int), ([], ()))), ((3 : Int), ())), ()))
  ((f20 a0).bind fun r1 =>
   ((f76 a3).bind fun r2 =>
   (if (0 : Int) ≤ r0.1.1 ∧ r0.1.1 < ((List.length r1.1.1.2.2.1 : Nat) : Int) then (k (((r1.1.1.1, (r1.1.1.2.1, ((List.set r1.1.1.2.2.1 (Int.toNat r0.1.1) r2.1.1), r1.1.1.2.2.2))), ((0 : Int), ())), ())) else none))))))
noncomputable def f26 (a0 : (Int × (Int × (List (List Int) × Unit)))) (a1 : Int) (a2 : Int) (a3 : List Int) : Option (((Int × (Int × (List (List Int) × Unit))) × Int × Unit) × (Unit)) := f26_k a0 a1 a2 a3 some
noncomputable def f26_sm : Sm := ⟨[.ro (.pair (.int .i64) (.pair (.int .i64) (.pair (.slc (.slc (.int .u8))) .unit))), .ro (.int .i64), .ro (.int .i64), .ro (.slc (.int .u8))], [((.pair (.int .i64) (.pair (.int .i64) (.pair (.slc (.slc (.int .u8))) .unit))), .ro), ((.int .i64), .ro)], fun x => f26 x.1 x.2.1 x.2.2.1 x.2.2.2.1⟩
theorem f26_m (x : ArgT [.ro (.pair (.int .i64) (.pair (.int .i64) (.pair (.slc (.slc (.int .u8))) .unit))), .ro (.int .i64), .ro (.int .i64), .ro (.slc (.int .u8))]) : codeS f26_fx f26_code (start [.ro (.pair (.int .i64) (.pair (.int .i64) (.pair (.slc (.slc (.int .u8))) .unit))), .ro (.int .i64), .ro (.int .i64), .ro (.slc (.int .u8))] [] x 36) (finK env [.cell 8 24, .tmp 9] [.ro (.pair (.int .i64) (.pair (.int .i64) (.pair (.slc (.slc (.int .u8))) .unit))), .ro (.int .i64), .ro (.int .i64), .ro (.slc (.int .u8))] [((.pair (.int .i64) (.pair (.int .i64) (.pair (.slc (.slc (.int .u8))) .unit))), .ro), ((.int .i64), .ro)]) = f26_k x.1 x.2.1 x.2.2.1 x.2.2.2.1 (fun r => some (r, [])) := by kernel_rfl
theorem f26_n {R : Type} (a0 : (Int × (Int × (List (List Int) × Unit)))) (a1 : Int) (a2 : Int) (a3 : List Int) (k : ((Int × (Int × (List (List Int) × Unit))) × Int × Unit) × (Unit) → Option R) : f26_k a0 a1 a2 a3 k = (f26 a0 a1 a2 a3).bind k := by
  simp only [f26, f26_k, cond_bind, ite_bind, bind_bind, some_bind, none_bind, elim_bind]
theorem f26_f : FnOk Try.prog 26 := ⟨Try.f26, Try.func26, by kernel_rfl, by kernel_rfl⟩
theorem f26_ok : SmOk Try.prog 26 f26_sm :=
  sum_of (c := f26_fx) (fn := Try.f26) (code := f26_code) (sm := f26_sm) mixed (env_ok env_envB) (TabsOk.all ⟨⟨f78_ok, f78_f⟩, ⟨f20_ok, f20_f⟩, ⟨f76_ok, f76_f⟩, trivial⟩) Try.func26 (by kernel_rfl)
   ((LoopsOk.of (l := []) (by kernel_rfl) trivial))
   (no_tails (by kernel_rfl))
   (fun ks x hl => by
    have hk : ks = [] := List.length_eq_zero_iff.1 hl
    subst hk
    exact (f26_m x).trans (f26_n _ _ _ _ _))
/-! slices.Grow[[][]byte,[]byte] -/
noncomputable def f79_code : Code := (Try.f79.body).getD .skip
noncomputable def f79_fx : Fx := { E := env, T := [], H := [], nodes := [] }
noncomputable def f79_k {R : Type} (a0 : Unit) (a1 : Int) (k : (List (List Int) × Unit) × (Unit) → Option R) : Option R :=
 (cond (decide (a1 < (0 : Int)))
 none
 (let v0 : Int := (IntKind.i64.wrap (a1 - (0 : Int)))
  (cond (decide (v0 > (0 : Int)))
  (if (0 : Int) < v0 ∧ v0 * 24 ≤ (most : Int) ∧ 0 < 1 ∧ 0 < 24 then (if (0 : Int) ≤ (0 : Int) ∧ (0 : Int) ≤ (0 : Int) ∧ (0 : Int) ≤ ((List.length (List.replicate (Int.toNat v0) ([] : List Int)) : Nat) : Int) then (k (((List.take 0 (List.drop 0 (List.replicate (Int.toNat v0) ([] : List Int)))), ()), ())) else none) else none)
  (k (([], ()), ())))))
noncomputable def f79 (a0 : Unit) (a1 : Int) : Option ((List (List Int) × Unit) × (Unit)) := f79_k a0 a1 some
noncomputable def f79_sm : Sm := ⟨[.nil, .ro (.int .i64)], [((.slc (.slc (.int .u8))), (.own .ro))], fun x => f79 x.1 x.2.1⟩
theorem f79_m (x : ArgT [.nil, .ro (.int .i64)]) : codeS f79_fx f79_code (start [.nil, .ro (.int .i64)] [] x 27) (finK env [.tmp 4] [.nil, .ro (.int .i64)] [((.slc (.slc (.int .u8))), (.own .ro))]) = f79_k x.1 x.2.1 (fun r => some (r, [])) := by kernel_rfl
theorem f79_n {R : Type} (a0 : Unit) (a1 : Int) (k : (List (List Int) × Unit) × (Unit) → Option R) : f79_k a0 a1 k = (f79 a0 a1).bind k := by
  simp only [f79, f79_k, cond_bind, ite_bind, bind_bind, some_bind, none_bind, elim_bind]
theorem f79_f : FnOk Try.prog 79 := ⟨Try.f79, Try.func79, by kernel_rfl, by kernel_rfl⟩
theorem f79_ok : SmOk Try.prog 79 f79_sm :=
  sum_of (c := f79_fx) (fn := Try.f79) (code := f79_code) (sm := f79_sm) mixed (env_ok env_envB) (TabsOk.all trivial) Try.func79 (by kernel_rfl)
   ((LoopsOk.of (l := []) (by kernel_rfl) trivial))
   (no_tails (by kernel_rfl))
   (fun ks x hl => by
    have hk : ks = [] := List.length_eq_zero_iff.1 hl
    subst hk
    exact (f79_m x).trans (f79_n _ _ _))
/-! slices.Concat[[][]byte,[]byte] -/
noncomputable def f27_code : Code := (Try.f27.body).getD .skip
noncomputable def f27_l3_sk : SkS := ⟨[.con (.slc (.slc (.slc (.int .u8)))), .undef, .undef, .con (.int .i64), .undef, .undef, .undef, .undef, .undef, .con (.slc (.slc (.slc (.int .u8)))), .con (.int .i64), .con (.int .i64), .undef, .undef, .undef, .undef, .undef, .undef, .undef, .undef, .undef, .undef, .undef, .undef, .undef, .undef, .undef, .undef, .undef, .undef, .undef, .undef, .undef, .undef, .undef, .undef], []⟩
noncomputable def f27_l3_o0 : SkS := ⟨[.con (.slc (.slc (.slc (.int .u8)))), .undef, .undef, .con (.int .i64), .undef, .undef, .undef, .undef, .undef, .undef, .undef, .undef, .undef, .undef, .undef, .undef, .undef, .undef, .undef, .undef, .undef, .undef, .undef, .undef, .undef, .undef, .undef, .undef, .undef, .undef, .undef, .undef, .undef, .undef, .undef, .undef], []⟩
noncomputable def f27_l3_outs : List Way := [⟨(.exit 0), [], f27_l3_o0⟩]
abbrev f27_l3_C := (List (List (List Int)) × List (List (List Int)) × Int)
abbrev f27_l3_X := (Int × Int)
abbrev f27_l3_Y := (Int)
noncomputable def f27_l3_con (t : f27_l3_sk.T) : f27_l3_C := (t.1.1, t.1.2.2.2.2.2.2.2.2.2.1, t.1.2.2.2.2.2.2.2.2.2.2.1)
noncomputable def f27_l3_get (t : f27_l3_sk.T) : f27_l3_X := (t.1.2.2.2.1, t.1.2.2.2.2.2.2.2.2.2.2.2.1)
noncomputable def f27_l3_put (c : f27_l3_C) (x : f27_l3_X) : f27_l3_sk.T := ((c.1, ((), ((), (x.1, ((), ((), ((), ((), ((), (c.2.1, (c.2.2, (x.2, ((), ((), ((), ((), ((), ((), ((), ((), ((), ((), ((), ((), ((), ((), ((), ((), ((), ((), ((), ((), ((), ((), ((), ((), ())))))))))))))))))))))))))))))))))))), ())
theorem f27_l3_pg (t : f27_l3_sk.T) : f27_l3_put (f27_l3_con t) (f27_l3_get t) = t := by kernel_rfl
noncomputable def f27_l3_w0 (c : f27_l3_C) (y : Int) : f27_l3_o0.T := ((c.1, ((), ((), (y, ((), ((), ((), ((), ((), ((), ((), ((), ((), ((), ((), ((), ((), ((), ((), ((), ((), ((), ((), ((), ((), ((), ((), ((), ((), ((), ((), ((), ((), ((), ((), ((), ())))))))))))))))))))))))))))))))))))), ())
noncomputable def f27_l3_out (c : f27_l3_C) (y : f27_l3_Y) : OutV f27_l3_outs := (fun y => (.inl (f27_l3_w0 c y))) y
noncomputable def f27_l3_k {R : Type} (a0 : List (List (List Int))) (a1 : Int) (a2 : List (List (List Int))) (a3 : Int) (a4 : Int) (kin : f27_l3_X → Option R) (k0 : Int → Option R) : Option R :=
 (cond (decide (a4 < a3))
 (if (0 : Int) ≤ a4 ∧ a4 < ((List.length a2 : Nat) : Int) then (let v0 : Int := (IntKind.i64.wrap (a1 + ((List.length (List.getD a2 (Int.toNat a4) ([] : List (List Int))) : Nat) : Int)))
  (cond (decide (v0 < (0 : Int)))
  none
  (let v1 : Int := (IntKind.i64.wrap (a4 + (1 : Int)))
   (kin (v0, v1))))) else none)
 (k0 a1))
noncomputable def f27_l3_g (a0 : List (List (List Int))) (a2 : List (List (List Int))) (a3 : Int) (x : f27_l3_X) : Option (f27_l3_X ⊕ f27_l3_Y) := f27_l3_k a0 x.1 a2 a3 x.2 (fun x => some (.inl x)) (fun y => some (.inr y))
noncomputable def f27_l3 (a0 : List (List (List Int))) (a2 : List (List (List Int))) (a3 : Int) (x : f27_l3_X) : Option f27_l3_Y := loopO (f27_l3_g a0 a2 a3) x
noncomputable def f27_l3_nd : Node := { nils := [], sk := f27_l3_sk, outs := f27_l3_outs, Y := f27_l3_Y, L := fun t => f27_l3 ((f27_l3_con t).1) ((f27_l3_con t).2.1) ((f27_l3_con t).2.2) (f27_l3_get t), out := fun t y => f27_l3_out (f27_l3_con t) y, disp := fun t y K => (fun y => K (.exit 0) (f27_l3_o0.fill (f27_l3_w0 (f27_l3_con t) y))) y }
noncomputable def f27_l11_sk : SkS := ⟨[.undef, .undef, .undef, .undef, .undef, .undef, .ref 111 [], .undef, .undef, .undef, .undef, .undef, .undef, .undef, .undef, .undef, .undef, .undef, .undef, .undef, .undef, .undef, .undef, .undef, .undef, .con (.slc (.slc (.slc (.int .u8)))), .con (.int .i64), .con (.int .i64), .undef, .undef, .undef, .undef, .undef, .undef, .undef, .undef], [(111, ⟨none, (.slc (.slc (.int .u8))), (.own .ro)⟩)]⟩
noncomputable def f27_l11_o0 : SkS := ⟨[.undef, .undef, .undef, .undef, .undef, .undef, .ref 111 [], .undef, .undef, .undef, .undef, .undef, .undef, .undef, .undef, .undef, .undef, .undef, .undef, .undef, .undef, .undef, .undef, .undef, .undef, .undef, .undef, .undef, .undef, .undef, .undef, .undef, .undef, .undef, .undef, .undef], [(111, ⟨none, (.slc (.slc (.int .u8))), (.own .ro)⟩)]⟩
noncomputable def f27_l11_outs : List Way := [⟨(.exit 2), [], f27_l11_o0⟩]
abbrev f27_l11_C := (List (List (List Int)) × Int)
abbrev f27_l11_X := (Int × List (List Int))
abbrev f27_l11_Y := (List (List Int))
noncomputable def f27_l11_con (t : f27_l11_sk.T) : f27_l11_C := (t.1.2.2.2.2.2.2.2.2.2.2.2.2.2.2.2.2.2.2.2.2.2.2.2.2.2.1, t.1.2.2.2.2.2.2.2.2.2.2.2.2.2.2.2.2.2.2.2.2.2.2.2.2.2.2.1)
noncomputable def f27_l11_get (t : f27_l11_sk.T) : f27_l11_X := (t.1.2.2.2.2.2.2.2.2.2.2.2.2.2.2.2.2.2.2.2.2.2.2.2.2.2.2.2.1, t.2.1.1)
noncomputable def f27_l11_put (c : f27_l11_C) (x : f27_l11_X) : f27_l11_sk.T := (((), ((), ((), ((), ((), ((), ((), ((), ((), ((), ((), ((), ((), ((), ((), ((), ((), ((), ((), ((), ((), ((), ((), ((), ((), (c.1, (c.2, (x.1, ((), ((), ((), ((), ((), ((), ((), ((), ())))))))))))))))))))))))))))))))))))), ((x.2, ()), ()))
theorem f27_l11_pg (t : f27_l11_sk.T) : f27_l11_put (f27_l11_con t) (f27_l11_get t) = t := by kernel_rfl
noncomputable def f27_l11_w0 (c : f27_l11_C) (y : List (List Int)) : f27_l11_o0.T := (((), ((), ((), ((), ((), ((), ((), ((), ((), ((), ((), ((), ((), ((), ((), ((), ((), ((), ((), ((), ((), ((), ((), ((), ((), ((), ((), ((), ((), ((), ((), ((), ((), ((), ((), ((), ())))))))))))))))))))))))))))))))))))), ((y, ()), ()))
noncomputable def f27_l11_out (c : f27_l11_C) (y : f27_l11_Y) : OutV f27_l11_outs := (fun y => (.inl (f27_l11_w0 c y))) y
noncomputable def f27_l11_k {R : Type} (a0 : List (List (List Int))) (a1 : Int) (a2 : Int) (a3 : List (List Int)) (kin : f27_l11_X → Option R) (k0 : List (List Int) → Option R) : Option R :=
 (cond (decide (a2 < a1))
 (if (0 : Int) ≤ a2 ∧ a2 < ((List.length a0 : Nat) : Int) then (if (List.length a3 + List.length (List.getD a0 (Int.toNat a2) ([] : List (List Int)))) * 24 ≤ most ∧ 0 < 24 ∧ 0 < 1 then (let r4 : List (List Int) := (a3 ++ (List.getD a0 (Int.toNat a2) ([] : List (List Int))))
  (let v5 : Int := (IntKind.i64.wrap (a2 + (1 : Int)))
  (kin (v5, r4)))) else none) else none)
 (k0 a3))
noncomputable def f27_l11_g (a0 : List (List (List Int))) (a1 : Int) (x : f27_l11_X) : Option (f27_l11_X ⊕ f27_l11_Y) := f27_l11_k a0 a1 x.1 x.2 (fun x => some (.inl x)) (fun y => some (.inr y))
noncomputable def f27_l11 (a0 : List (List (List Int))) (a1 : Int) (x : f27_l11_X) : Option f27_l11_Y := loopO (f27_l11_g a0 a1) x
noncomputable def f27_l11_nd : Node := { nils := [(6, 111, (.slc (.int .u8)), .ro)], sk := f27_l11_sk, outs := f27_l11_outs, Y := f27_l11_Y, L := fun t => f27_l11 ((f27_l11_con t).1) ((f27_l11_con t).2) (f27_l11_get t), out := fun t y => f27_l11_out (f27_l11_con t) y, disp := fun t y K => (fun y => K (.exit 2) (f27_l11_o0.fill (f27_l11_w0 (f27_l11_con t) y))) y }
noncomputable def f27_fx : Fx := { E := env, T := [(79, f79_sm)], H := [], nodes := [((true, 3), f27_l3_nd), ((true, 11), f27_l11_nd)] }
noncomputable def f27_l3_b : Code := (loops f27_code).getD 0 .skip
theorem f27_l3_r (c : f27_l3_C) (x : f27_l3_X) : roundS f27_fx f27_l3_b f27_l3_nd (f27_l3_put c x) = f27_l3_k c.1 x.1 c.2.1 c.2.2 x.2 (fun x => some (.inl (f27_l3_put c x))) (fun y => some (.inr (.inl (f27_l3_w0 c y)))) := by kernel_rfl
theorem f27_l3_n {R : Type} (a0 : List (List (List Int))) (a1 : Int) (a2 : List (List (List Int))) (a3 : Int) (a4 : Int) (kin : f27_l3_X → Option R) (k0 : Int → Option R) : f27_l3_k a0 a1 a2 a3 a4 kin k0 = (f27_l3_g a0 a2 a3 (a1, a4)).bind (Sum.elim kin k0) := by
  simp only [f27_l3_g, f27_l3_k, cond_bind, ite_bind, bind_bind, some_bind, none_bind, elim_bind, Sum.elim_inl, Sum.elim_inr]
theorem f27_l3_ok : LoopOk f27_fx f27_l3_b f27_l3_nd := loop_ok f27_l3_con f27_l3_get f27_l3_put f27_l3_pg (fun c => f27_l3_g c.1 c.2.1 c.2.2) f27_l3_out (fun t y => rfl) (fun t y K => rfl) (fun c x => by
  refine (f27_l3_r c x).trans ((f27_l3_n _ _ _ _ _ _ _).trans ?_)
  first
  | rfl
  | congr 1
    funext s
    rcases s with s | s <;> rfl) (fun t => rfl)
noncomputable def f27_l11_b : Code := (loops f27_code).getD 1 .skip
theorem f27_l11_r (c : f27_l11_C) (x : f27_l11_X) : roundS f27_fx f27_l11_b f27_l11_nd (f27_l11_put c x) = f27_l11_k c.1 c.2 x.1 x.2 (fun x => some (.inl (f27_l11_put c x))) (fun y => some (.inr (.inl (f27_l11_w0 c y)))) := by kernel_rfl
theorem f27_l11_n {R : Type} (a0 : List (List (List Int))) (a1 : Int) (a2 : Int) (a3 : List (List Int)) (kin : f27_l11_X → Option R) (k0 : List (List Int) → Option R) : f27_l11_k a0 a1 a2 a3 kin k0 = (f27_l11_g a0 a1 (a2, a3)).bind (Sum.elim kin k0) := by
  simp only [f27_l11_g, f27_l11_k, cond_bind, ite_bind, bind_bind, some_bind, none_bind, elim_bind, Sum.elim_inl, Sum.elim_inr]
theorem f27_l11_ok : LoopOk f27_fx f27_l11_b f27_l11_nd := loop_ok f27_l11_con f27_l11_get f27_l11_put f27_l11_pg (fun c => f27_l11_g c.1 c.2) f27_l11_out (fun t y => rfl) (fun t y K => rfl) (fun c x => by
  refine (f27_l11_r c x).trans ((f27_l11_n _ _ _ _ _ _).trans ?_)
  first
  | rfl
  | congr 1
    funext s
    rcases s with s | s <;> rfl) (fun t => rfl)
noncomputable def f27_k {R : Type} (a0 : List (List (List Int))) (k : (List (List Int) × Unit) × (Unit) → Option R) : Option R :=
 ((f27_l3 a0 a0 ((List.length a0 : Nat) : Int) ((0 : Int), (0 : Int))).bind fun y2 =>
 ((f79 () y2).bind fun r3 =>
 ((f27_l11 a0 ((List.length a0 : Nat) : Int) ((0 : Int), r3.1.1)).bind fun y6 =>
 (k ((y6, ()), ())))))
noncomputable def f27 (a0 : List (List (List Int))) : Option ((List (List Int) × Unit) × (Unit)) := f27_k a0 some
noncomputable def f27_sm : Sm := ⟨[.ro (.slc (.slc (.slc (.int .u8))))], [((.slc (.slc (.int .u8))), (.own .ro))], fun x => f27 x.1⟩
theorem f27_m (x : ArgT [.ro (.slc (.slc (.slc (.int .u8))))]) : codeS f27_fx f27_code (start [.ro (.slc (.slc (.slc (.int .u8))))] [] x 36) (finK env [.tmp 2] [.ro (.slc (.slc (.slc (.int .u8))))] [((.slc (.slc (.int .u8))), (.own .ro))]) = f27_k x.1 (fun r => some (r, [])) := by kernel_rfl
theorem f27_n {R : Type} (a0 : List (List (List Int))) (k : (List (List Int) × Unit) × (Unit) → Option R) : f27_k a0 k = (f27 a0).bind k := by
  simp only [f27, f27_k, cond_bind, ite_bind, bind_bind, some_bind, none_bind, elim_bind]
theorem f27_f : FnOk Try.prog 27 := ⟨Try.f27, Try.func27, by kernel_rfl, by kernel_rfl⟩
theorem f27_ok : SmOk Try.prog 27 f27_sm :=
  sum_of (c := f27_fx) (fn := Try.f27) (code := f27_code) (sm := f27_sm) mixed (env_ok env_envB) (TabsOk.all ⟨⟨f79_ok, f79_f⟩, trivial⟩) Try.func27 (by kernel_rfl)
   ((LoopsOk.of (l := [f27_l3_b, f27_l11_b]) (by kernel_rfl) ⟨node_is (by kernel_rfl) f27_l3_ok, node_is (by kernel_rfl) f27_l11_ok, trivial⟩))
   (no_tails (by kernel_rfl))
   (fun ks x hl => by
    have hk : ks = [] := List.length_eq_zero_iff.1 hl
    subst hk
    exact (f27_m x).trans (f27_n _ _))
/-! bakelite/bakelaw2.ImageSectors -/
noncomputable def f3_code : Code := (Try.f3.body).getD .skip
noncomputable def f3_t14_sk : SkS := ⟨[.undef, .undef, .undef, .undef, .con (.int .i64), .con (.int .i64), .con (.slc (.int .u8)), .ptr 112 [], .undef, .undef, .undef, .undef, .undef, .undef, .undef, .undef, .con (.int .i64), .ref 1664 [], .ptr 288 [], .con (.int .i64), .con (.int .i64), .undef, .undef, .undef, .undef, .undef, .undef, .undef, .undef, .undef, .undef, .undef, .undef, .undef, .undef, .undef, .undef, .undef, .undef, .undef, .undef, .undef, .undef, .undef, .undef, .undef, .undef, .undef, .undef, .undef, .undef, .undef, .undef, .undef, .undef, .undef, .undef, .undef, .undef, .undef, .undef, .undef, .undef, .undef, .undef, .undef, .undef, .undef, .undef, .undef, .undef, .undef, .undef, .undef, .undef, .undef, .undef, .undef, .undef, .undef, .undef, .undef, .undef, .undef, .undef, .undef, .undef, .undef, .undef, .undef, .undef, .undef, .undef, .undef, .undef, .undef, .undef, .undef, .undef, .undef, .undef, .undef, .undef, .undef, .undef, .undef, .undef, .undef, .undef, .undef, .undef, .undef, .undef, .undef, .undef, .undef, .undef, .undef, .undef, .undef, .undef, .undef, .undef, .undef, .undef, .undef, .undef, .undef, .undef, .undef, .undef, .undef, .undef, .undef, .undef, .undef, .undef, .undef, .undef, .undef, .undef, .undef, .undef, .undef, .undef, .undef, .undef, .undef, .undef, .undef, .undef, .undef, .undef, .undef, .undef, .undef, .undef, .undef, .undef, .undef, .undef, .undef, .undef, .undef, .undef, .undef, .undef, .undef, .undef, .undef, .undef, .undef, .undef, .undef, .undef, .undef, .undef, .undef, .undef, .undef, .undef, .undef, .undef, .undef, .undef, .undef, .undef, .undef, .undef, .undef, .undef, .undef, .undef, .undef, .undef, .undef, .undef, .undef, .undef, .undef, .undef, .undef, .undef, .undef, .undef, .undef, .undef, .undef, .undef, .undef, .undef, .undef], [(112, ⟨some 24, (.pair (.int .i64) (.pair (.int .i64) (.pair (.slc (.slc (.int .u8))) .unit))), .ro⟩), (288, ⟨some 24, (.pair (.int .i64) (.pair (.int .i64) (.pair (.slc (.slc (.int .u8))) .unit))), .ro⟩), (1664, ⟨none, (.slc (.int .u8)), (.own .ro)⟩)]⟩
noncomputable def f3_t14_o0 : SkS := ⟨[.undef, .undef, .undef, .undef, .undef, .undef, .undef, .undef, .undef, .undef, .undef, .undef, .undef, .undef, .con .bool, .undef, .undef, .undef, .undef, .undef, .undef, .undef, .undef, .undef, .undef, .undef, .undef, .undef, .undef, .undef, .undef, .undef, .undef, .undef, .undef, .undef, .undef, .undef, .undef, .undef, .undef, .undef, .undef, .undef, .undef, .undef, .undef, .undef, .undef, .undef, .undef, .undef, .undef, .undef, .undef, .undef, .undef, .undef, .undef, .undef, .undef, .undef, .undef, .undef, .undef, .undef, .undef, .undef, .undef, .undef, .undef, .undef, .undef, .undef, .undef, .undef, .undef, .undef, .undef, .undef, .undef, .undef, .undef, .undef, .undef, .undef, .undef, .undef, .undef, .undef, .undef, .undef, .undef, .undef, .undef, .undef, .undef, .undef, .undef, .undef, .undef, .undef, .undef, .undef, .undef, .undef, .undef, .undef, .undef, .undef, .undef, .undef, .undef, .undef, .undef, .undef, .undef, .undef, .undef, .undef, .undef, .undef, .undef, .undef, .undef, .undef, .undef, .undef, .undef, .undef, .undef, .undef, .undef, .undef, .undef, .undef, .undef, .undef, .undef, .undef, .undef, .undef, .undef, .undef, .undef, .undef, .undef, .undef, .undef, .undef, .undef, .undef, .undef, .undef, .undef, .undef, .undef, .undef, .undef, .undef, .undef, .undef, .undef, .undef, .undef, .undef, .undef, .undef, .undef, .undef, .undef, .undef, .undef, .undef, .undef, .undef, .undef, .undef, .undef, .undef, .undef, .undef, .undef, .undef, .undef, .undef, .undef, .undef, .undef, .undef, .undef, .undef, .undef, .undef, .undef, .undef, .undef, .undef, .undef, .undef, .undef, .undef, .undef, .undef, .undef, .undef, .undef, .undef, .undef, .undef, .undef, .undef], []⟩
noncomputable def f3_t14_outs : List Way := [⟨.ret, [], f3_t14_o0⟩]
abbrev f3_t14_C := ((Option Nat) × (Option Nat))
abbrev f3_t14_X := (Int × Int × List Int × Int × Int × Int × (Int × (Int × (List (List Int) × Unit))) × (Int × (Int × (List (List Int) × Unit))) × List Int)
abbrev f3_t14_Y := (Bool)
noncomputable def f3_t14_con (t : f3_t14_sk.T) : f3_t14_C := (t.2.1.2, t.2.2.1.2)
noncomputable def f3_t14_get (t : f3_t14_sk.T) : f3_t14_X := (t.1.2.2.2.2.1, t.1.2.2.2.2.2.1, t.1.2.2.2.2.2.2.1, t.1.2.2.2.2.2.2.2.2.2.2.2.2.2.2.2.2.1, t.1.2.2.2.2.2.2.2.2.2.2.2.2.2.2.2.2.2.2.2.1, t.1.2.2.2.2.2.2.2.2.2.2.2.2.2.2.2.2.2.2.2.2.1, t.2.1.1, t.2.2.1.1, t.2.2.2.1.1)
noncomputable def f3_t14_put (c : f3_t14_C) (x : f3_t14_X) : f3_t14_sk.T := (((), ((), ((), ((), (x.1, (x.2.1, (x.2.2.1, ((), ((), ((), ((), ((), ((), ((), ((), ((), (x.2.2.2.1, ((), ((), (x.2.2.2.2.1, (x.2.2.2.2.2.1, ((), ((), ((), ((), ((), ((), ((), ((), ((), ((), ((), ((), ((), ((), ((), ((), ((), ((), ((), ((), ((), ((), ((), ((), ((), ((), ((), ((), ((), ((), ((), ((), ((), ((), ((), ((), ((), ((), ((), ((), ((), ((), ((), ((), ((), ((), ((), ((), ((), ((), ((), ((), ((), ((), ((), ((), ((), ((), ((), ((), ((), ((), ((), ((), ((), ((), ((), ((), ((), ((), ((), ((), ((), ((), ((), ((), ((), ((), ((), ((), ((), ((), ((), ((), ((), ((), ((), ((), ((), ((), ((), ((), ((), ((), ((), ((), ((), ((), ((), ((), ((), ((), ((), ((), ((), ((), ((), ((), ((), ((), ((), ((), ((), ((), ((), ((), ((), ((), ((), ((), ((), ((), ((), ((), ((), ((), ((), ((), ((), ((), ((), ((), ((), ((), ((), ((), ((), ((), ((), ((), ((), ((), ((), ((), ((), ((), ((), ((), ((), ((), ((), ((), ((), ((), ((), ((), ((), ((), ((), ((), ((), ((), ((), ((), ((), ((), ((), ((), ((), ((), ((), ((), ((), ((), ((), ((), ((), ((), ((), ((), ((), ((), ((), ((), ((), ((), ((), ((), ((), ((), ((), ())))))))))))))))))))))))))))))))))))))))))))))))))))))))))))))))))))))))))))))))))))))))))))))))))))))))))))))))))))))))))))))))))))))))))))))))))))))))))))))))))))))))))))))))))))))))))))))))))))))))))))))))))))), ((x.2.2.2.2.2.2.1, c.1), ((x.2.2.2.2.2.2.2.1, c.2), ((x.2.2.2.2.2.2.2.2, ()), ()))))
theorem f3_t14_pg (t : f3_t14_sk.T) : f3_t14_put (f3_t14_con t) (f3_t14_get t) = t := by kernel_rfl
noncomputable def f3_t14_w0 (c : f3_t14_C) (x : f3_t14_X) (y : Bool) : f3_t14_o0.T := (((), ((), ((), ((), ((), ((), ((), ((), ((), ((), ((), ((), ((), ((), (y, ((), ((), ((), ((), ((), ((), ((), ((), ((), ((), ((), ((), ((), ((), ((), ((), ((), ((), ((), ((), ((), ((), ((), ((), ((), ((), ((), ((), ((), ((), ((), ((), ((), ((), ((), ((), ((), ((), ((), ((), ((), ((), ((), ((), ((), ((), ((), ((), ((), ((), ((), ((), ((), ((), ((), ((), ((), ((), ((), ((), ((), ((), ((), ((), ((), ((), ((), ((), ((), ((), ((), ((), ((), ((), ((), ((), ((), ((), ((), ((), ((), ((), ((), ((), ((), ((), ((), ((), ((), ((), ((), ((), ((), ((), ((), ((), ((), ((), ((), ((), ((), ((), ((), ((), ((), ((), ((), ((), ((), ((), ((), ((), ((), ((), ((), ((), ((), ((), ((), ((), ((), ((), ((), ((), ((), ((), ((), ((), ((), ((), ((), ((), ((), ((), ((), ((), ((), ((), ((), ((), ((), ((), ((), ((), ((), ((), ((), ((), ((), ((), ((), ((), ((), ((), ((), ((), ((), ((), ((), ((), ((), ((), ((), ((), ((), ((), ((), ((), ((), ((), ((), ((), ((), ((), ((), ((), ((), ((), ((), ((), ((), ((), ((), ((), ((), ((), ((), ((), ((), ((), ((), ((), ((), ((), ((), ((), ((), ())))))))))))))))))))))))))))))))))))))))))))))))))))))))))))))))))))))))))))))))))))))))))))))))))))))))))))))))))))))))))))))))))))))))))))))))))))))))))))))))))))))))))))))))))))))))))))))))))))))))))))))))))))), ())
noncomputable def f3_t14_out (c : f3_t14_C) (x : f3_t14_X) (y : f3_t14_Y) : OutV f3_t14_outs := (fun y => (.inl (f3_t14_w0 c x y))) y
noncomputable def f3_t14_k {R : Type} (a0 : Int) (a1 : Int) (a2 : List Int) (a3 : Int) (a4 : Int) (a5 : Int) (a6 : (Int × (Int × (List (List Int) × Unit)))) (a7 : (Int × (Int × (List (List Int) × Unit)))) (a8 : List Int) (k0 : Bool → Option R) : Option R :=
 (cond (a5 != (0 : Int))
 (cond (a3 == a5)
  (cond (a4 == a5)
   (let v11 : Int := (IntKind.i64.wrap (((List.length a8 : Nat) : Int) + ((List.length a7.2.2.1 : Nat) : Int)))
    (k0 (v11 == (0 : Int))))
   (k0 false))
  (k0 false))
 (let v12 : Int := (IntKind.i64.wrap (a6.2.1 * a0))
  (let v13 : Int := (IntKind.i64.wrap (v12 + a1))
  (cond (a3 != (0 : Int))
  (k0 false)
  (if (0 : Int) ≤ v13 ∧ v13 < ((List.length a6.2.2.1 : Nat) : Int) then ((f24 a8 (List.getD a6.2.2.1 (Int.toNat v13) ([] : List Int))).bind fun r14 =>
   (cond (!r14.1.1)
   (k0 false)
   (cond (((List.length a2 : Nat) : Int) != (128 : Int))
    (cond (a4 == (3 : Int))
     (k0 (((List.length a7.2.2.1 : Nat) : Int) == (0 : Int)))
     (k0 false))
    (if (0 : Int) ≤ (0 : Int) ∧ (0 : Int) ≤ v13 ∧ v13 ≤ ((List.length a6.2.2.1 : Nat) : Int) then (let v15 : Int := (IntKind.i64.wrap (v13 + (1 : Int)))
     (if (0 : Int) ≤ v15 ∧ v15 ≤ ((List.length a6.2.2.1 : Nat) : Int) ∧ ((List.length a6.2.2.1 : Nat) : Int) ≤ ((List.length a6.2.2.1 : Nat) : Int) then ((f27 [(List.take ((Int.toNat v13) - 0) (List.drop 0 a6.2.2.1)), [a2], (List.take ((Int.toNat ((List.length a6.2.2.1 : Nat) : Int)) - (Int.toNat v15)) (List.drop (Int.toNat v15) a6.2.2.1))]).bind fun r16 =>
     (cond (a4 == (0 : Int))
     ((f19 a7 (a6.1, (a6.2.1, (r16.1.1, ())))).bind fun r17 =>
      (k0 r17.1.1))
     (k0 false))) else none)) else none)))) else none)))))
noncomputable def f3_t14 (a0 : Int) (a1 : Int) (a2 : List Int) (a3 : Int) (a4 : Int) (a5 : Int) (a6 : (Int × (Int × (List (List Int) × Unit)))) (a7 : (Int × (Int × (List (List Int) × Unit)))) (a8 : List Int) : Option f3_t14_Y := f3_t14_k a0 a1 a2 a3 a4 a5 a6 a7 a8 (fun y => some y)
noncomputable def f3_t14_nd : Node := { nils := [], sk := f3_t14_sk, outs := f3_t14_outs, Y := f3_t14_Y, L := fun t => f3_t14 ((f3_t14_get t).1) ((f3_t14_get t).2.1) ((f3_t14_get t).2.2.1) ((f3_t14_get t).2.2.2.1) ((f3_t14_get t).2.2.2.2.1) ((f3_t14_get t).2.2.2.2.2.1) ((f3_t14_get t).2.2.2.2.2.2.1) ((f3_t14_get t).2.2.2.2.2.2.2.1) ((f3_t14_get t).2.2.2.2.2.2.2.2), out := fun t y => f3_t14_out (f3_t14_con t) (f3_t14_get t) y, disp := fun t y K => (fun y => K .ret (f3_t14_o0.fill (f3_t14_w0 (f3_t14_con t) (f3_t14_get t) y))) y }
noncomputable def f3_t9_sk : SkS := ⟨[.undef, .undef, .undef, .undef, .con (.int .i64), .con (.int .i64), .con (.slc (.int .u8)), .ptr 112 [], .undef, .undef, .undef, .undef, .undef, .undef, .undef, .undef, .undef, .undef, .undef, .undef, .undef, .undef, .undef, .undef, .undef, .undef, .undef, .undef, .undef, .undef, .undef, .undef, .undef, .undef, .undef, .undef, .undef, .undef, .undef, .undef, .undef, .undef, .undef, .undef, .undef, .undef, .undef, .undef, .undef, .undef, .undef, .undef, .undef, .undef, .undef, .undef, .undef, .undef, .undef, .undef, .undef, .undef, .undef, .undef, .undef, .undef, .undef, .undef, .undef, .undef, .undef, .undef, .undef, .undef, .undef, .undef, .undef, .undef, .undef, .undef, .undef, .undef, .undef, .undef, .undef, .undef, .undef, .undef, .undef, .undef, .undef, .undef, .undef, .undef, .undef, .undef, .undef, .undef, .undef, .undef, .undef, .undef, .undef, .undef, .undef, .undef, .undef, .undef, .undef, .undef, .undef, .undef, .undef, .undef, .undef, .undef, .undef, .undef, .undef, .undef, .undef, .undef, .undef, .undef, .undef, .undef, .undef, .undef, .undef, .undef, .undef, .undef, .undef, .undef, .undef, .undef, .undef, .undef, .undef, .undef, .undef, .undef, .undef, .undef, .undef, .undef, .undef, .undef, .undef, .undef, .undef, .undef, .undef, .undef, .undef, .undef, .undef, .undef, .undef, .undef, .undef, .undef, .undef, .undef, .undef, .undef, .undef, .undef, .undef, .undef, .undef, .undef, .undef, .undef, .undef, .undef, .undef, .undef, .undef, .undef, .undef, .undef, .undef, .undef, .undef, .undef, .undef, .undef, .undef, .undef, .undef, .undef, .undef, .undef, .undef, .undef, .undef, .undef, .undef, .undef, .undef, .undef, .undef, .undef, .undef, .undef, .undef, .undef, .undef, .undef, .undef, .undef], [(112, ⟨some 24, (.pair (.int .i64) (.pair (.int .i64) (.pair (.slc (.slc (.int .u8))) .unit))), .ro⟩)]⟩
noncomputable def f3_t9_o0 : SkS := ⟨[.undef, .undef, .undef, .undef, .undef, .undef, .undef, .undef, .undef, .undef, .undef, .undef, .undef, .undef, .con .bool, .undef, .undef, .undef, .undef, .undef, .undef, .undef, .undef, .undef, .undef, .undef, .undef, .undef, .undef, .undef, .undef, .undef, .undef, .undef, .undef, .undef, .undef, .undef, .undef, .undef, .undef, .undef, .undef, .undef, .undef, .undef, .undef, .undef, .undef, .undef, .undef, .undef, .undef, .undef, .undef, .undef, .undef, .undef, .undef, .undef, .undef, .undef, .undef, .undef, .undef, .undef, .undef, .undef, .undef, .undef, .undef, .undef, .undef, .undef, .undef, .undef, .undef, .undef, .undef, .undef, .undef, .undef, .undef, .undef, .undef, .undef, .undef, .undef, .undef, .undef, .undef, .undef, .undef, .undef, .undef, .undef, .undef, .undef, .undef, .undef, .undef, .undef, .undef, .undef, .undef, .undef, .undef, .undef, .undef, .undef, .undef, .undef, .undef, .undef, .undef, .undef, .undef, .undef, .undef, .undef, .undef, .undef, .undef, .undef, .undef, .undef, .undef, .undef, .undef, .undef, .undef, .undef, .undef, .undef, .undef, .undef, .undef, .undef, .undef, .undef, .undef, .undef, .undef, .undef, .undef, .undef, .undef, .undef, .undef, .undef, .undef, .undef, .undef, .undef, .undef, .undef, .undef, .undef, .undef, .undef, .undef, .undef, .undef, .undef, .undef, .undef, .undef, .undef, .undef, .undef, .undef, .undef, .undef, .undef, .undef, .undef, .undef, .undef, .undef, .undef, .undef, .undef, .undef, .undef, .undef, .undef, .undef, .undef, .undef, .undef, .undef, .undef, .undef, .undef, .undef, .undef, .undef, .undef, .undef, .undef, .undef, .undef, .undef, .undef, .undef, .undef, .undef, .undef, .undef, .undef, .undef, .undef], []⟩
noncomputable def f3_t9_outs : List Way := [⟨.ret, [], f3_t9_o0⟩]
abbrev f3_t9_C := (Option Nat)
abbrev f3_t9_X := (Int × Int × List Int × (Int × (Int × (List (List Int) × Unit))))
abbrev f3_t9_Y := (Bool)
noncomputable def f3_t9_con (t : f3_t9_sk.T) : f3_t9_C := t.2.1.2
noncomputable def f3_t9_get (t : f3_t9_sk.T) : f3_t9_X := (t.1.2.2.2.2.1, t.1.2.2.2.2.2.1, t.1.2.2.2.2.2.2.1, t.2.1.1)
noncomputable def f3_t9_put (c : f3_t9_C) (x : f3_t9_X) : f3_t9_sk.T := (((), ((), ((), ((), (x.1, (x.2.1, (x.2.2.1, ((), ((), ((), ((), ((), ((), ((), ((), ((), ((), ((), ((), ((), ((), ((), ((), ((), ((), ((), ((), ((), ((), ((), ((), ((), ((), ((), ((), ((), ((), ((), ((), ((), ((), ((), ((), ((), ((), ((), ((), ((), ((), ((), ((), ((), ((), ((), ((), ((), ((), ((), ((), ((), ((), ((), ((), ((), ((), ((), ((), ((), ((), ((), ((), ((), ((), ((), ((), ((), ((), ((), ((), ((), ((), ((), ((), ((), ((), ((), ((), ((), ((), ((), ((), ((), ((), ((), ((), ((), ((), ((), ((), ((), ((), ((), ((), ((), ((), ((), ((), ((), ((), ((), ((), ((), ((), ((), ((), ((), ((), ((), ((), ((), ((), ((), ((), ((), ((), ((), ((), ((), ((), ((), ((), ((), ((), ((), ((), ((), ((), ((), ((), ((), ((), ((), ((), ((), ((), ((), ((), ((), ((), ((), ((), ((), ((), ((), ((), ((), ((), ((), ((), ((), ((), ((), ((), ((), ((), ((), ((), ((), ((), ((), ((), ((), ((), ((), ((), ((), ((), ((), ((), ((), ((), ((), ((), ((), ((), ((), ((), ((), ((), ((), ((), ((), ((), ((), ((), ((), ((), ((), ((), ((), ((), ((), ((), ((), ((), ((), ((), ((), ((), ((), ((), ((), ())))))))))))))))))))))))))))))))))))))))))))))))))))))))))))))))))))))))))))))))))))))))))))))))))))))))))))))))))))))))))))))))))))))))))))))))))))))))))))))))))))))))))))))))))))))))))))))))))))))))))))))))))))), ((x.2.2.2, c), ()))
theorem f3_t9_pg (t : f3_t9_sk.T) : f3_t9_put (f3_t9_con t) (f3_t9_get t) = t := by kernel_rfl
noncomputable def f3_t9_w0 (c : f3_t9_C) (x : f3_t9_X) (y : Bool) : f3_t9_o0.T := (((), ((), ((), ((), ((), ((), ((), ((), ((), ((), ((), ((), ((), ((), (y, ((), ((), ((), ((), ((), ((), ((), ((), ((), ((), ((), ((), ((), ((), ((), ((), ((), ((), ((), ((), ((), ((), ((), ((), ((), ((), ((), ((), ((), ((), ((), ((), ((), ((), ((), ((), ((), ((), ((), ((), ((), ((), ((), ((), ((), ((), ((), ((), ((), ((), ((), ((), ((), ((), ((), ((), ((), ((), ((), ((), ((), ((), ((), ((), ((), ((), ((), ((), ((), ((), ((), ((), ((), ((), ((), ((), ((), ((), ((), ((), ((), ((), ((), ((), ((), ((), ((), ((), ((), ((), ((), ((), ((), ((), ((), ((), ((), ((), ((), ((), ((), ((), ((), ((), ((), ((), ((), ((), ((), ((), ((), ((), ((), ((), ((), ((), ((), ((), ((), ((), ((), ((), ((), ((), ((), ((), ((), ((), ((), ((), ((), ((), ((), ((), ((), ((), ((), ((), ((), ((), ((), ((), ((), ((), ((), ((), ((), ((), ((), ((), ((), ((), ((), ((), ((), ((), ((), ((), ((), ((), ((), ((), ((), ((), ((), ((), ((), ((), ((), ((), ((), ((), ((), ((), ((), ((), ((), ((), ((), ((), ((), ((), ((), ((), ((), ((), ((), ((), ((), ((), ((), ((), ((), ((), ((), ((), ((), ())))))))))))))))))))))))))))))))))))))))))))))))))))))))))))))))))))))))))))))))))))))))))))))))))))))))))))))))))))))))))))))))))))))))))))))))))))))))))))))))))))))))))))))))))))))))))))))))))))))))))))))))))))), ())
noncomputable def f3_t9_out (c : f3_t9_C) (x : f3_t9_X) (y : f3_t9_Y) : OutV f3_t9_outs := (fun y => (.inl (f3_t9_w0 c x y))) y
noncomputable def f3_t9_k {R : Type} (a0 : Int) (a1 : Int) (a2 : List Int) (a3 : (Int × (Int × (List (List Int) × Unit)))) (k0 : Bool → Option R) : Option R :=
 ((f25 a3 a0 a1).bind fun r8 =>
 ((f26 a3 a0 a1 a2).bind fun r9 =>
 ((f17 a3).bind fun r10 =>
 (cond (r10.1.1 == (0 : Int))
 (cond (decide (a0 < (0 : Int)))
  ((f3_t14 a0 a1 a2 r8.1.2.1 r9.1.2.1 (19 : Int) a3 r9.1.1 r8.1.1).bind fun y18 =>
   (k0 y18))
  (cond (decide (a0 ≥ a3.1))
   ((f3_t14 a0 a1 a2 r8.1.2.1 r9.1.2.1 (19 : Int) a3 r9.1.1 r8.1.1).bind fun y19 =>
    (k0 y19))
   (cond (decide (a1 < (0 : Int)))
    ((f3_t14 a0 a1 a2 r8.1.2.1 r9.1.2.1 (19 : Int) a3 r9.1.1 r8.1.1).bind fun y20 =>
     (k0 y20))
    (cond (decide (a1 ≥ a3.2.1))
     ((f3_t14 a0 a1 a2 r8.1.2.1 r9.1.2.1 (19 : Int) a3 r9.1.1 r8.1.1).bind fun y21 =>
      (k0 y21))
     ((f3_t14 a0 a1 a2 r8.1.2.1 r9.1.2.1 r10.1.1 a3 r9.1.1 r8.1.1).bind fun y22 =>
      (k0 y22))))))
 ((f3_t14 a0 a1 a2 r8.1.2.1 r9.1.2.1 r10.1.1 a3 r9.1.1 r8.1.1).bind fun y23 =>
  (k0 y23))))))
noncomputable def f3_t9 (a0 : Int) (a1 : Int) (a2 : List Int) (a3 : (Int × (Int × (List (List Int) × Unit)))) : Option f3_t9_Y := f3_t9_k a0 a1 a2 a3 (fun y => some y)
noncomputable def f3_t9_nd : Node := { nils := [], sk := f3_t9_sk, outs := f3_t9_outs, Y := f3_t9_Y, L := fun t => f3_t9 ((f3_t9_get t).1) ((f3_t9_get t).2.1) ((f3_t9_get t).2.2.1) ((f3_t9_get t).2.2.2), out := fun t y => f3_t9_out (f3_t9_con t) (f3_t9_get t) y, disp := fun t y K => (fun y => K .ret (f3_t9_o0.fill (f3_t9_w0 (f3_t9_con t) (f3_t9_get t) y))) y }
noncomputable def f3_fx : Fx := { E := env, T := [(15, f15_sm), (16, f16_sm), (17, f17_sm), (18, f18_sm), (19, f19_sm), (20, f20_sm), (21, f21_sm), (25, f25_sm), (26, f26_sm), (24, f24_sm), (27, f27_sm), (22, f22x1_sm)], H := [(202, .ro), (196, .ro)], nodes := [((false, 14), f3_t14_nd), ((false, 9), f3_t9_nd)] }
noncomputable def f3_t14_b : Code := (tails f3_code).getD 14 .skip
theorem f3_t14_r (c : f3_t14_C) (x : f3_t14_X) : tailS f3_fx f3_t14_b f3_t14_nd (f3_t14_put c x) = f3_t14_k x.1 x.2.1 x.2.2.1 x.2.2.2.1 x.2.2.2.2.1 x.2.2.2.2.2.1 x.2.2.2.2.2.2.1 x.2.2.2.2.2.2.2.1 x.2.2.2.2.2.2.2.2 (fun y => some (.inl (f3_t14_w0 c x y))) := by kernel_rfl
theorem f3_t14_n {R : Type} (a0 : Int) (a1 : Int) (a2 : List Int) (a3 : Int) (a4 : Int) (a5 : Int) (a6 : (Int × (Int × (List (List Int) × Unit)))) (a7 : (Int × (Int × (List (List Int) × Unit)))) (a8 : List Int) (k0 : Bool → Option R) : f3_t14_k a0 a1 a2 a3 a4 a5 a6 a7 a8 k0 = (f3_t14 a0 a1 a2 a3 a4 a5 a6 a7 a8).bind k0 := by
  simp only [f3_t14, f3_t14_k, cond_bind, ite_bind, bind_bind, some_bind, none_bind, elim_bind, Sum.elim_inl, Sum.elim_inr]
theorem f3_t14_ok : TailOk f3_fx f3_t14_b f3_t14_nd := tail_ok f3_t14_con f3_t14_get f3_t14_put f3_t14_pg (fun x => f3_t14 x.1 x.2.1 x.2.2.1 x.2.2.2.1 x.2.2.2.2.1 x.2.2.2.2.2.1 x.2.2.2.2.2.2.1 x.2.2.2.2.2.2.2.1 x.2.2.2.2.2.2.2.2) f3_t14_out (fun t y => rfl) (fun t y K => rfl) (fun c x => by
  refine (f3_t14_r c x).trans ((f3_t14_n _ _ _ _ _ _ _ _ _ _).trans ?_)
  first
  | rfl
  | congr 1
    funext s
    rfl) (fun t => rfl)
noncomputable def f3_t9_b : Code := (tails f3_code).getD 5 .skip
theorem f3_t9_r (c : f3_t9_C) (x : f3_t9_X) : tailS f3_fx f3_t9_b f3_t9_nd (f3_t9_put c x) = f3_t9_k x.1 x.2.1 x.2.2.1 x.2.2.2 (fun y => some (.inl (f3_t9_w0 c x y))) := by kernel_rfl
theorem f3_t9_n {R : Type} (a0 : Int) (a1 : Int) (a2 : List Int) (a3 : (Int × (Int × (List (List Int) × Unit)))) (k0 : Bool → Option R) : f3_t9_k a0 a1 a2 a3 k0 = (f3_t9 a0 a1 a2 a3).bind k0 := by
  simp only [f3_t9, f3_t9_k, cond_bind, ite_bind, bind_bind, some_bind, none_bind, elim_bind, Sum.elim_inl, Sum.elim_inr]
theorem f3_t9_ok : TailOk f3_fx f3_t9_b f3_t9_nd := tail_ok f3_t9_con f3_t9_get f3_t9_put f3_t9_pg (fun x => f3_t9 x.1 x.2.1 x.2.2.1 x.2.2.2) f3_t9_out (fun t y => rfl) (fun t y K => rfl) (fun c x => by
  refine (f3_t9_r c x).trans ((f3_t9_n _ _ _ _ _).trans ?_)
  first
  | rfl
  | congr 1
    funext s
    rfl) (fun t => rfl)
noncomputable def f3_k {R : Type} (a0 : (Int × (Int × (List (List Int) × Unit)))) (a1 : (Int × (Int × (List (List Int) × Unit)))) (a2 : Int) (a3 : Int) (a4 : Int) (a5 : Int) (a6 : List Int) (k : (Bool × Unit) × (Unit) → Option R) : Option R :=
 ((f15).bind fun r0 =>
 (cond (!r0.1.1)
 (k ((false, ()), ()))
 ((f16 a0).bind fun r1 =>
  ((f17 a0).bind fun r2 =>
  (cond (r1.1.1 != r2.1.1)
  (k ((false, ()), ()))
  ((f18 a0 a1).bind fun r3 =>
   ((f19 a0 a1).bind fun r4 =>
   (cond (!(r3.1.1 == r4.1.1))
   (k ((false, ()), ()))
   ((f20 a0).bind fun r5 =>
    ((f19 r5.1.1 a0).bind fun r6 =>
    (cond (!r6.1.1)
    (k ((false, ()), ()))
    ((f21 a2 a3).bind fun r7 =>
     (cond (decide (a2 < (1 : Int)))
     (cond (r7.1.2.1 != (1 : Int))
      (k ((false, ()), ()))
      (cond (decide (((List.length r7.1.1.2.2.1 : Nat) : Int) > (0 : Int)))
       (k ((false, ()), ()))
       ((f3_t9 a4 a5 a6 a0).bind fun y24 =>
        (k ((y24, ()), ())))))
     (cond (decide (a2 > (20 : Int)))
      (cond (r7.1.2.1 != (1 : Int))
       (k ((false, ()), ()))
       (cond (decide (((List.length r7.1.1.2.2.1 : Nat) : Int) > (0 : Int)))
        (k ((false, ()), ()))
        ((f3_t9 a4 a5 a6 a0).bind fun y25 =>
         (k ((y25, ()), ())))))
      (cond (decide (a3 < (1 : Int)))
       (cond (r7.1.2.1 != (1 : Int))
        (k ((false, ()), ()))
        (cond (decide (((List.length r7.1.1.2.2.1 : Nat) : Int) > (0 : Int)))
         (k ((false, ()), ()))
         ((f3_t9 a4 a5 a6 a0).bind fun y26 =>
          (k ((y26, ()), ())))))
       (cond (decide (a3 > (12 : Int)))
        (cond (r7.1.2.1 != (1 : Int))
         (k ((false, ()), ()))
         (cond (decide (((List.length r7.1.1.2.2.1 : Nat) : Int) > (0 : Int)))
          (k ((false, ()), ()))
          ((f3_t9 a4 a5 a6 a0).bind fun y27 =>
           (k ((y27, ()), ())))))
        (cond (r7.1.2.1 != (0 : Int))
         (k ((false, ()), ()))
         (cond (r7.1.1.1 != a2)
          (k ((false, ()), ()))
          (cond (r7.1.1.2.1 != a3)
           (k ((false, ()), ()))
           ((f17 r7.1.1).bind fun r28 =>
            (cond (r28.1.1 != (0 : Int))
            (k ((false, ()), ()))
            ((f22x1 r7.1.1.2.2.1 ()).bind fun r29 =>
             (cond r29.1.1
             (k ((false, ()), ()))
             ((f3_t9 a4 a5 a6 a0).bind fun y30 =>
              (k ((y30, ()), ()))))))))))))))))))))))))))
noncomputable def f3 (a0 : (Int × (Int × (List (List Int) × Unit)))) (a1 : (Int × (Int × (List (List Int) × Unit)))) (a2 : Int) (a3 : Int) (a4 : Int) (a5 : Int) (a6 : List Int) : Option ((Bool × Unit) × (Unit)) := f3_k a0 a1 a2 a3 a4 a5 a6 some
noncomputable def f3_sm : Sm := ⟨[.ro (.pair (.int .i64) (.pair (.int .i64) (.pair (.slc (.slc (.int .u8))) .unit))), .ro (.pair (.int .i64) (.pair (.int .i64) (.pair (.slc (.slc (.int .u8))) .unit))), .ro (.int .i64), .ro (.int .i64), .ro (.int .i64), .ro (.int .i64), .ro (.slc (.int .u8))], [(.bool, .ro)], fun x => f3 x.1 x.2.1 x.2.2.1 x.2.2.2.1 x.2.2.2.2.1 x.2.2.2.2.2.1 x.2.2.2.2.2.2.1⟩
theorem f3_m (x : ArgT [.ro (.pair (.int .i64) (.pair (.int .i64) (.pair (.slc (.slc (.int .u8))) .unit))), .ro (.pair (.int .i64) (.pair (.int .i64) (.pair (.slc (.slc (.int .u8))) .unit))), .ro (.int .i64), .ro (.int .i64), .ro (.int .i64), .ro (.int .i64), .ro (.slc (.int .u8))]) : codeS f3_fx f3_code (start [.ro (.pair (.int .i64) (.pair (.int .i64) (.pair (.slc (.slc (.int .u8))) .unit))), .ro (.pair (.int .i64) (.pair (.int .i64) (.pair (.slc (.slc (.int .u8))) .unit))), .ro (.int .i64), .ro (.int .i64), .ro (.int .i64), .ro (.int .i64), .ro (.slc (.int .u8))] [] x 212) (finK env [.tmp 14] [.ro (.pair (.int .i64) (.pair (.int .i64) (.pair (.slc (.slc (.int .u8))) .unit))), .ro (.pair (.int .i64) (.pair (.int .i64) (.pair (.slc (.slc (.int .u8))) .unit))), .ro (.int .i64), .ro (.int .i64), .ro (.int .i64), .ro (.int .i64), .ro (.slc (.int .u8))] [(.bool, .ro)]) = f3_k x.1 x.2.1 x.2.2.1 x.2.2.2.1 x.2.2.2.2.1 x.2.2.2.2.2.1 x.2.2.2.2.2.2.1 (fun r => some (r, [])) := by kernel_rfl
theorem f3_n {R : Type} (a0 : (Int × (Int × (List (List Int) × Unit)))) (a1 : (Int × (Int × (List (List Int) × Unit)))) (a2 : Int) (a3 : Int) (a4 : Int) (a5 : Int) (a6 : List Int) (k : (Bool × Unit) × (Unit) → Option R) : f3_k a0 a1 a2 a3 a4 a5 a6 k = (f3 a0 a1 a2 a3 a4 a5 a6).bind k := by
  simp only [f3, f3_k, cond_bind, ite_bind, bind_bind, some_bind, none_bind, elim_bind]
theorem f3_f : FnOk Try.prog 3 := ⟨Try.f3, Try.func3, by kernel_rfl, by kernel_rfl⟩
theorem f3_ok : SmOk Try.prog 3 f3_sm :=
  sum_of (c := f3_fx) (fn := Try.f3) (code := f3_code) (sm := f3_sm) mixed (env_ok env_envB) (TabsOk.all ⟨⟨f15_ok, f15_f⟩, ⟨f16_ok, f16_f⟩, ⟨f17_ok, f17_f⟩, ⟨f18_ok, f18_f⟩, ⟨f19_ok, f19_f⟩, ⟨f20_ok, f20_f⟩, ⟨f21_ok, f21_f⟩, ⟨f25_ok, f25_f⟩, ⟨f26_ok, f26_f⟩, ⟨f24_ok, f24_f⟩, ⟨f27_ok, f27_f⟩, ⟨f22x1_ok, f22x1_f⟩, trivial⟩) Try.func3 (by kernel_rfl)
   ((LoopsOk.of (l := []) (by kernel_rfl) trivial))
   ((TailsOk.of (l := [((tails f3_code).getD 0 .skip), ((tails f3_code).getD 1 .skip), ((tails f3_code).getD 2 .skip), ((tails f3_code).getD 3 .skip), ((tails f3_code).getD 4 .skip), f3_t9_b, ((tails f3_code).getD 6 .skip), ((tails f3_code).getD 7 .skip), ((tails f3_code).getD 8 .skip), ((tails f3_code).getD 9 .skip), ((tails f3_code).getD 10 .skip), ((tails f3_code).getD 11 .skip), ((tails f3_code).getD 12 .skip), ((tails f3_code).getD 13 .skip), f3_t14_b, ((tails f3_code).getD 15 .skip), ((tails f3_code).getD 16 .skip), ((tails f3_code).getD 17 .skip), ((tails f3_code).getD 18 .skip), ((tails f3_code).getD 19 .skip), ((tails f3_code).getD 20 .skip), ((tails f3_code).getD 21 .skip), ((tails f3_code).getD 22 .skip), ((tails f3_code).getD 23 .skip), ((tails f3_code).getD 24 .skip), ((tails f3_code).getD 25 .skip), ((tails f3_code).getD 26 .skip), ((tails f3_code).getD 27 .skip)]) (by kernel_rfl) ⟨node_no (by kernel_rfl), node_no (by kernel_rfl), node_no (by kernel_rfl), node_no (by kernel_rfl), node_no (by kernel_rfl), node_is (by kernel_rfl) f3_t9_ok, node_no (by kernel_rfl), node_no (by kernel_rfl), node_no (by kernel_rfl), node_no (by kernel_rfl), node_no (by kernel_rfl), node_no (by kernel_rfl), node_no (by kernel_rfl), node_no (by kernel_rfl), node_is (by kernel_rfl) f3_t14_ok, node_no (by kernel_rfl), node_no (by kernel_rfl), node_no (by kernel_rfl), node_no (by kernel_rfl), node_no (by kernel_rfl), node_no (by kernel_rfl), node_no (by kernel_rfl), node_no (by kernel_rfl), node_no (by kernel_rfl), node_no (by kernel_rfl), node_no (by kernel_rfl), node_no (by kernel_rfl), node_no (by kernel_rfl), trivial⟩))
   (fun ks x hl => by
    have hk : ks = [] := List.length_eq_zero_iff.1 hl
    subst hk
    exact (f3_m x).trans (f3_n _ _ _ _ _ _ _ _))
end Go.Proofs.Ytlgbhaigpecdoaa.V
