/- Printed. -/
import Derived.Test.YtlgbhaigpecdoaaVExt
set_option linter.unusedVariables false
set_option linter.unusedSimpArgs false
set_option maxRecDepth 100000
namespace Go.Proofs.Ytlgbhaigpecdoaa.V
open Go
/-! bakelite/bakeref2.DiskErr$1 -/
noncomputable def f72_code : Code := (Try.f72.body).getD .skip
noncomputable def f72_fx : Fx := { E := env, T := [], H := [], O := [], nodes := [] }
noncomputable def f72_k {R : Type} (a0 : List Int) (k : (Bool × Unit) × (Unit) → Option R) : Option R :=
 (k (((((List.length a0 : Nat) : Int) != (128 : Int)), ()), ()))
noncomputable def f72 (a0 : List Int) : Option ((Bool × Unit) × (Unit)) := f72_k a0 some
noncomputable def f72_sm : Sm := ⟨[.ro (.slc (.int .u8))], [(.bool, .ro)], fun x => f72 x.1⟩
theorem f72_m (x : ArgT [.ro (.slc (.int .u8))]) : codeS f72_fx f72_code (start [.ro (.slc (.int .u8))] [] x 6) (finK env [.tmp 2] [.ro (.slc (.int .u8))] [(.bool, .ro)]) = f72_k x.1 (fun r => some (r, [])) := by kernel_rfl
theorem f72_n {R : Type} (a0 : List Int) (k : (Bool × Unit) × (Unit) → Option R) : f72_k a0 k = (f72 a0).bind k := by
  simp only [f72, f72_k, cond_bind, ite_bind, bind_bind, some_bind, none_bind, elim_bind]
theorem f72_ok : SmOk Try.prog 72 f72_sm :=
  sum_of (c := f72_fx) (fn := Try.f72) (code := f72_code) (sm := f72_sm) mixed (env_ok env_envB) (TabsOk.all trivial) Try.func72 (by kernel_rfl)
   ((LoopsOk.of (l := []) (by kernel_rfl) trivial))
   (no_tails (by kernel_rfl))
   (fun ks x hl => by
    have hk : ks = [] := List.length_eq_zero_iff.1 hl
    subst hk
    exact (f72_m x).trans (f72_n _ _))
theorem f72_c : CalOk Try.prog 72 f72_sm := .inl ⟨f72_ok, ⟨Try.f72, Try.func72, by kernel_rfl, by kernel_rfl⟩⟩
/-! slices.IndexFunc[[][]byte,[]byte] -/
noncomputable def f77_code : Code := (Try.f77.body).getD .skip
noncomputable def f77_l2_sk : SkS := ⟨10, [(0, .con (.slc (.slc (.int .u8)))), (0, .fn 72 (.tnil)), (5, .con (.int .i64)), (0, .con (.int .i64))], []⟩
noncomputable def f77_l2_o0 : SkS := ⟨14, [(4, .con (.int .i64))], []⟩
noncomputable def f77_l2_o1 : SkS := ⟨19, [], []⟩
noncomputable def f77_l2_outs : List Way := [⟨.ret, [], f77_l2_o0⟩, ⟨(.exit 0), [], f77_l2_o1⟩]
abbrev f77_l2_C := (List (List Int) × Int)
abbrev f77_l2_X := Int
abbrev f77_l2_Y := (Int) ⊕ (Unit)
noncomputable def f77_l2_con (t : f77_l2_sk.T) : f77_l2_C := (t.1.1, t.1.2.2.1)
noncomputable def f77_l2_get (t : f77_l2_sk.T) : f77_l2_X := t.1.2.2.2.1
noncomputable def f77_l2_put (c : f77_l2_C) (x : f77_l2_X) : f77_l2_sk.T := ((c.1, ((), (c.2, (x, ())))), ())
theorem f77_l2_pg (t : f77_l2_sk.T) : f77_l2_put (f77_l2_con t) (f77_l2_get t) = t := by kernel_rfl
noncomputable def f77_l2_w0 (c : f77_l2_C) (y : Int) : f77_l2_o0.T := ((y, ()), ())
noncomputable def f77_l2_w1 (c : f77_l2_C) (y : Unit) : f77_l2_o1.T := ((), ())
noncomputable def f77_l2_out (c : f77_l2_C) (y : f77_l2_Y) : OutV f77_l2_outs := (Sum.elim (fun y => (.inl (f77_l2_w0 c y))) (fun y => (.inr (.inl (f77_l2_w1 c y))))) y
noncomputable def f77_l2_k {R : Type} (a0 : List (List Int)) (a1 : Int) (a2 : Int) (kin : f77_l2_X → Option R) (k0 : Int → Option R) (k1 : Unit → Option R) : Option R :=
 (cond (decide (a2 < a1))
 (if (0 : Int) ≤ a2 ∧ a2 < ((List.length a0 : Nat) : Int) then ((f72 (List.getD a0 (Int.toNat a2) ([] : List Int))).bind fun r0 =>
  (cond r0.1.1
  (k0 a2)
  (let v1 : Int := (IntKind.i64.wrap (a2 + (1 : Int)))
   (kin v1)))) else none)
 (k1 ()))
noncomputable def f77_l2_g (a0 : List (List Int)) (a1 : Int) (x : f77_l2_X) : Option (f77_l2_X ⊕ f77_l2_Y) := f77_l2_k a0 a1 x (fun x => some (.inl x)) (fun y => some (.inr (.inl y))) (fun y => some (.inr (.inr y)))
noncomputable def f77_l2 (a0 : List (List Int)) (a1 : Int) (x : f77_l2_X) : Option f77_l2_Y := loopO (f77_l2_g a0 a1) x
noncomputable def f77_l2_nd : Node := { nils := [], sk := f77_l2_sk, outs := f77_l2_outs, Y := f77_l2_Y, L := fun t => f77_l2 ((f77_l2_con t).1) ((f77_l2_con t).2) (f77_l2_get t), out := fun t y => f77_l2_out (f77_l2_con t) y, disp := fun t y K => (Sum.elim (fun y => K .ret (f77_l2_o0.fill (f77_l2_w0 (f77_l2_con t) y))) (fun y => K (.exit 0) (f77_l2_o1.fill (f77_l2_w1 (f77_l2_con t) y)))) y }
noncomputable def f77_fx : Fx := { E := env, T := [(72, f72_sm)], H := [], O := [], nodes := [((true, 2), f77_l2_nd)] }
noncomputable def f77_l2_b : Code := (loops f77_code).getD 0 .skip
theorem f77_l2_r (c : f77_l2_C) (x : f77_l2_X) : roundS f77_fx f77_l2_b f77_l2_nd (f77_l2_put c x) = f77_l2_k c.1 c.2 x (fun x => some (.inl (f77_l2_put c x))) (fun y => some (.inr (.inl (f77_l2_w0 c y)))) (fun y => some (.inr (.inr (.inl (f77_l2_w1 c y))))) := by kernel_rfl
theorem f77_l2_n {R : Type} (a0 : List (List Int)) (a1 : Int) (a2 : Int) (kin : f77_l2_X → Option R) (k0 : Int → Option R) (k1 : Unit → Option R) : f77_l2_k a0 a1 a2 kin k0 k1 = (f77_l2_g a0 a1 a2).bind (Sum.elim kin (Sum.elim k0 k1)) := by
  simp only [f77_l2_g, f77_l2_k, cond_bind, ite_bind, bind_bind, some_bind, none_bind, elim_bind, Sum.elim_inl, Sum.elim_inr]
theorem f77_l2_ok : LoopOk f77_fx f77_l2_b f77_l2_nd := loop_ok f77_l2_con f77_l2_get f77_l2_put f77_l2_pg (fun c => f77_l2_g c.1 c.2) f77_l2_out (fun t y => rfl) (by intro R t y K; rcases y with y | y <;> rfl) (fun c x => by
  refine (f77_l2_r c x).trans ((f77_l2_n _ _ _ _ _ _).trans ?_)
  first
  | rfl
  | congr 1
    funext s
    rcases s with s | s | s <;> rfl) (fun t => rfl)
noncomputable def f77_k {R : Type} (a0 : List (List Int)) (a1 : (Unit)) (k : (Int × Unit) × (Unit) → Option R) : Option R :=
 ((f77_l2 a0 ((List.length a0 : Nat) : Int) (0 : Int)).bind fun y2 =>
 ((Sum.elim (fun z3 =>
 (k ((z3, ()), ())))
 (fun z4 =>
 (k (((-1 : Int), ()), ())))) y2))
noncomputable def f77 (a0 : List (List Int)) (a1 : (Unit)) : Option ((Int × Unit) × (Unit)) := f77_k a0 a1 some
noncomputable def f77_sm : Sm := ⟨[.ro (.slc (.slc (.int .u8))), .fn 72 []], [((.int .i64), .ro)], fun x => f77 x.1 x.2.1⟩
theorem f77_m (x : ArgT [.ro (.slc (.slc (.int .u8))), .fn 72 []]) : codeS f77_fx f77_code (start [.ro (.slc (.slc (.int .u8))), .fn 72 []] [] x 19) (finK env [.tmp 4] [.ro (.slc (.slc (.int .u8))), .fn 72 []] [((.int .i64), .ro)]) = f77_k x.1 x.2.1 (fun r => some (r, [])) := by kernel_rfl
theorem f77_n {R : Type} (a0 : List (List Int)) (a1 : (Unit)) (k : (Int × Unit) × (Unit) → Option R) : f77_k a0 a1 k = (f77 a0 a1).bind k := by
  simp only [f77, f77_k, cond_bind, ite_bind, bind_bind, some_bind, none_bind, elim_bind]
theorem f77_ok : SmOk Try.prog 77 f77_sm :=
  sum_of (c := f77_fx) (fn := Try.f77) (code := f77_code) (sm := f77_sm) mixed (env_ok env_envB) (TabsOk.all ⟨f72_c, trivial⟩) Try.func77 (by kernel_rfl)
   ((LoopsOk.of (l := [f77_l2_b]) (by kernel_rfl) ⟨node_is (by kernel_rfl) f77_l2_ok, trivial⟩))
   (no_tails (by kernel_rfl))
   (fun ks x hl => by
    have hk : ks = [] := List.length_eq_zero_iff.1 hl
    subst hk
    exact (f77_m x).trans (f77_n _ _ _))
theorem f77_c : CalOk Try.prog 77 f77_sm := .inl ⟨f77_ok, ⟨Try.f77, Try.func77, by kernel_rfl, by kernel_rfl⟩⟩
/-! slices.ContainsFunc[[][]byte,[]byte] -/
noncomputable def f22_code : Code := (Try.f22.body).getD .skip
noncomputable def f22_fx : Fx := { E := env, T := [(77, f77_sm)], H := [], O := [], nodes := [] }
noncomputable def f22_k {R : Type} (a0 : List (List Int)) (a1 : (Unit)) (k : (Bool × Unit) × (Unit) → Option R) : Option R :=
 ((f77 a0 ()).bind fun r0 =>
 (k (((decide (r0.1.1 ≥ (0 : Int))), ()), ())))
noncomputable def f22 (a0 : List (List Int)) (a1 : (Unit)) : Option ((Bool × Unit) × (Unit)) := f22_k a0 a1 some
noncomputable def f22_sm : Sm := ⟨[.ro (.slc (.slc (.int .u8))), .fn 72 []], [(.bool, .ro)], fun x => f22 x.1 x.2.1⟩
theorem f22_m (x : ArgT [.ro (.slc (.slc (.int .u8))), .fn 72 []]) : codeS f22_fx f22_code (start [.ro (.slc (.slc (.int .u8))), .fn 72 []] [] x 9) (finK env [.tmp 4] [.ro (.slc (.slc (.int .u8))), .fn 72 []] [(.bool, .ro)]) = f22_k x.1 x.2.1 (fun r => some (r, [])) := by kernel_rfl
theorem f22_n {R : Type} (a0 : List (List Int)) (a1 : (Unit)) (k : (Bool × Unit) × (Unit) → Option R) : f22_k a0 a1 k = (f22 a0 a1).bind k := by
  simp only [f22, f22_k, cond_bind, ite_bind, bind_bind, some_bind, none_bind, elim_bind]
theorem f22_ok : SmOk Try.prog 22 f22_sm :=
  sum_of (c := f22_fx) (fn := Try.f22) (code := f22_code) (sm := f22_sm) mixed (env_ok env_envB) (TabsOk.all ⟨f77_c, trivial⟩) Try.func22 (by kernel_rfl)
   ((LoopsOk.of (l := []) (by kernel_rfl) trivial))
   (no_tails (by kernel_rfl))
   (fun ks x hl => by
    have hk : ks = [] := List.length_eq_zero_iff.1 hl
    subst hk
    exact (f22_m x).trans (f22_n _ _ _))
theorem f22_c : CalOk Try.prog 22 f22_sm := .inl ⟨f22_ok, ⟨Try.f22, Try.func22, by kernel_rfl, by kernel_rfl⟩⟩
/-! bakelite/bakeref2.DiskErr -/
noncomputable def f17_code : Code := (Try.f17.body).getD .skip
noncomputable def f17_fx : Fx := { E := env, T := [(22, f22_sm)], H := [], O := [], nodes := [] }
noncomputable def f17_k {R : Type} (a0 : (Int × (Int × (List (List Int) × Unit)))) (k : (Int × Unit) × (Unit) → Option R) : Option R :=
 (let v0 : Int := (if a0.2.1 < a0.1 then a0.2.1 else a0.1)
 (cond (decide (v0 < (1 : Int)))
 (k (((1 : Int), ()), ()))
 (cond (decide (a0.1 > (20 : Int)))
  (k (((1 : Int), ()), ()))
  (cond (decide (a0.2.1 > (12 : Int)))
   (k (((1 : Int), ()), ()))
   (let v1 : Int := (IntKind.i64.wrap (a0.2.1 * a0.1))
    (cond (((List.length a0.2.2.1 : Nat) : Int) != v1)
    (k (((3 : Int), ()), ()))
    ((f22 a0.2.2.1 ()).bind fun r2 =>
     (cond r2.1.1
     (k (((3 : Int), ()), ()))
     (k (((0 : Int), ()), ()))))))))))
noncomputable def f17 (a0 : (Int × (Int × (List (List Int) × Unit)))) : Option ((Int × Unit) × (Unit)) := f17_k a0 some
noncomputable def f17_sm : Sm := ⟨[.ro (.pair (.int .i64) (.pair (.int .i64) (.pair (.slc (.slc (.int .u8))) .unit)))], [((.int .i64), .ro)], fun x => f17 x.1⟩
theorem f17_m (x : ArgT [.ro (.pair (.int .i64) (.pair (.int .i64) (.pair (.slc (.slc (.int .u8))) .unit)))]) : codeS f17_fx f17_code (start [.ro (.pair (.int .i64) (.pair (.int .i64) (.pair (.slc (.slc (.int .u8))) .unit)))] [] x 33) (finK env [.tmp 2] [.ro (.pair (.int .i64) (.pair (.int .i64) (.pair (.slc (.slc (.int .u8))) .unit)))] [((.int .i64), .ro)]) = f17_k x.1 (fun r => some (r, [])) := by kernel_rfl
theorem f17_n {R : Type} (a0 : (Int × (Int × (List (List Int) × Unit)))) (k : (Int × Unit) × (Unit) → Option R) : f17_k a0 k = (f17 a0).bind k := by
  simp only [f17, f17_k, cond_bind, ite_bind, bind_bind, some_bind, none_bind, elim_bind]
theorem f17_ok : SmOk Try.prog 17 f17_sm :=
  sum_of (c := f17_fx) (fn := Try.f17) (code := f17_code) (sm := f17_sm) mixed (env_ok env_envB) (TabsOk.all ⟨f22_c, trivial⟩) Try.func17 (by kernel_rfl)
   ((LoopsOk.of (l := []) (by kernel_rfl) trivial))
   (no_tails (by kernel_rfl))
   (fun ks x hl => by
    have hk : ks = [] := List.length_eq_zero_iff.1 hl
    subst hk
    exact (f17_m x).trans (f17_n _ _))
theorem f17_c : CalOk Try.prog 17 f17_sm := .inl ⟨f17_ok, ⟨Try.f17, Try.func17, by kernel_rfl, by kernel_rfl⟩⟩
/-! slices.Grow[[]byte,byte] -/
noncomputable def f133_code : Code := (Try.f133.body).getD .skip
noncomputable def f133_fx : Fx := { E := env, T := [], H := [], O := [], nodes := [] }
noncomputable def f133_k {R : Type} (a0 : Unit) (a1 : Int) (k : (List Int × Unit) × (Unit) → Option R) : Option R :=
 (cond (decide (a1 < (0 : Int)))
 none
 (let v0 : Int := (IntKind.i64.wrap (a1 - (0 : Int)))
  (cond (decide (v0 > (0 : Int)))
  (if (0 : Int) < v0 ∧ v0 * 1 ≤ (most : Int) ∧ 0 < 1 ∧ 0 < 1 then (if (0 : Int) ≤ (0 : Int) ∧ (0 : Int) ≤ (0 : Int) ∧ (0 : Int) ≤ ((List.length (List.replicate (Int.toNat v0) (0 : Int)) : Nat) : Int) then (k (((List.take 0 (List.drop 0 (List.replicate (Int.toNat v0) (0 : Int)))), ()), ())) else none) else none)
  (k (([], ()), ())))))
noncomputable def f133 (a0 : Unit) (a1 : Int) : Option ((List Int × Unit) × (Unit)) := f133_k a0 a1 some
noncomputable def f133_sm : Sm := ⟨[.nil, .ro (.int .i64)], [((.slc (.int .u8)), (.own .ro))], fun x => f133 x.1 x.2.1⟩
theorem f133_m (x : ArgT [.nil, .ro (.int .i64)]) : codeS f133_fx f133_code (start [.nil, .ro (.int .i64)] [] x 27) (finK env [.tmp 4] [.nil, .ro (.int .i64)] [((.slc (.int .u8)), (.own .ro))]) = f133_k x.1 x.2.1 (fun r => some (r, [])) := by kernel_rfl
theorem f133_n {R : Type} (a0 : Unit) (a1 : Int) (k : (List Int × Unit) × (Unit) → Option R) : f133_k a0 a1 k = (f133 a0 a1).bind k := by
  simp only [f133, f133_k, cond_bind, ite_bind, bind_bind, some_bind, none_bind, elim_bind]
theorem f133_ok : SmOk Try.prog 133 f133_sm :=
  sum_of (c := f133_fx) (fn := Try.f133) (code := f133_code) (sm := f133_sm) mixed (env_ok env_envB) (TabsOk.all trivial) Try.func133 (by kernel_rfl)
   ((LoopsOk.of (l := []) (by kernel_rfl) trivial))
   (no_tails (by kernel_rfl))
   (fun ks x hl => by
    have hk : ks = [] := List.length_eq_zero_iff.1 hl
    subst hk
    exact (f133_m x).trans (f133_n _ _ _))
theorem f133_c : CalOk Try.prog 133 f133_sm := .inl ⟨f133_ok, ⟨Try.f133, Try.func133, by kernel_rfl, by kernel_rfl⟩⟩
/-! slices.Concat[[]byte,byte] -/
noncomputable def f102_code : Code := (Try.f102.body).getD .skip
noncomputable def f102_l3_sk : SkS := ⟨24, [(0, .con (.slc (.slc (.int .u8)))), (2, .con (.int .i64)), (5, .con (.slc (.slc (.int .u8)))), (0, .con (.int .i64)), (0, .con (.int .i64))], []⟩
noncomputable def f102_l3_o0 : SkS := ⟨32, [(0, .con (.slc (.slc (.int .u8)))), (2, .con (.int .i64))], []⟩
noncomputable def f102_l3_outs : List Way := [⟨(.exit 0), [], f102_l3_o0⟩]
abbrev f102_l3_C := (List (List Int) × List (List Int) × Int)
abbrev f102_l3_X := (Int × Int)
abbrev f102_l3_Y := (Int)
noncomputable def f102_l3_con (t : f102_l3_sk.T) : f102_l3_C := (t.1.1, t.1.2.2.1, t.1.2.2.2.1)
noncomputable def f102_l3_get (t : f102_l3_sk.T) : f102_l3_X := (t.1.2.1, t.1.2.2.2.2.1)
noncomputable def f102_l3_put (c : f102_l3_C) (x : f102_l3_X) : f102_l3_sk.T := ((c.1, (x.1, (c.2.1, (c.2.2, (x.2, ()))))), ())
theorem f102_l3_pg (t : f102_l3_sk.T) : f102_l3_put (f102_l3_con t) (f102_l3_get t) = t := by kernel_rfl
noncomputable def f102_l3_w0 (c : f102_l3_C) (y : Int) : f102_l3_o0.T := ((c.1, (y, ())), ())
noncomputable def f102_l3_out (c : f102_l3_C) (y : f102_l3_Y) : OutV f102_l3_outs := (fun y => (.inl (f102_l3_w0 c y))) y
noncomputable def f102_l3_k {R : Type} (a0 : List (List Int)) (a1 : Int) (a2 : List (List Int)) (a3 : Int) (a4 : Int) (kin : f102_l3_X → Option R) (k0 : Int → Option R) : Option R :=
 (cond (decide (a4 < a3))
 (if (0 : Int) ≤ a4 ∧ a4 < ((List.length a2 : Nat) : Int) then (let v0 : Int := (IntKind.i64.wrap (a1 + ((List.length (List.getD a2 (Int.toNat a4) ([] : List Int)) : Nat) : Int)))
  (cond (decide (v0 < (0 : Int)))
  none
  (let v1 : Int := (IntKind.i64.wrap (a4 + (1 : Int)))
   (kin (v0, v1))))) else none)
 (k0 a1))
noncomputable def f102_l3_g (a0 : List (List Int)) (a2 : List (List Int)) (a3 : Int) (x : f102_l3_X) : Option (f102_l3_X ⊕ f102_l3_Y) := f102_l3_k a0 x.1 a2 a3 x.2 (fun x => some (.inl x)) (fun y => some (.inr y))
noncomputable def f102_l3 (a0 : List (List Int)) (a2 : List (List Int)) (a3 : Int) (x : f102_l3_X) : Option f102_l3_Y := loopO (f102_l3_g a0 a2 a3) x
noncomputable def f102_l3_nd : Node := { nils := [], sk := f102_l3_sk, outs := f102_l3_outs, Y := f102_l3_Y, L := fun t => f102_l3 ((f102_l3_con t).1) ((f102_l3_con t).2.1) ((f102_l3_con t).2.2) (f102_l3_get t), out := fun t y => f102_l3_out (f102_l3_con t) y, disp := fun t y K => (fun y => K (.exit 0) (f102_l3_o0.fill (f102_l3_w0 (f102_l3_con t) y))) y }
noncomputable def f102_l11_sk : SkS := ⟨8, [(6, .ref 111 []), (18, .con (.slc (.slc (.int .u8)))), (0, .con (.int .i64)), (0, .con (.int .i64))], [(111, ⟨none, (.slc (.int .u8)), (.own .ro), none⟩)]⟩
noncomputable def f102_l11_o0 : SkS := ⟨29, [(6, .ref 111 [])], [(111, ⟨none, (.slc (.int .u8)), (.own .ro), none⟩)]⟩
noncomputable def f102_l11_outs : List Way := [⟨(.exit 2), [], f102_l11_o0⟩]
abbrev f102_l11_C := (List (List Int) × Int)
abbrev f102_l11_X := (Int × List Int)
abbrev f102_l11_Y := (List Int)
noncomputable def f102_l11_con (t : f102_l11_sk.T) : f102_l11_C := (t.1.1, t.1.2.1)
noncomputable def f102_l11_get (t : f102_l11_sk.T) : f102_l11_X := (t.1.2.2.1, t.2.1.1)
noncomputable def f102_l11_put (c : f102_l11_C) (x : f102_l11_X) : f102_l11_sk.T := ((c.1, (c.2, (x.1, ()))), ((x.2, ()), ()))
theorem f102_l11_pg (t : f102_l11_sk.T) : f102_l11_put (f102_l11_con t) (f102_l11_get t) = t := by kernel_rfl
noncomputable def f102_l11_w0 (c : f102_l11_C) (y : List Int) : f102_l11_o0.T := ((), ((y, ()), ()))
noncomputable def f102_l11_out (c : f102_l11_C) (y : f102_l11_Y) : OutV f102_l11_outs := (fun y => (.inl (f102_l11_w0 c y))) y
noncomputable def f102_l11_k {R : Type} (a0 : List (List Int)) (a1 : Int) (a2 : Int) (a3 : List Int) (kin : f102_l11_X → Option R) (k0 : List Int → Option R) : Option R :=
 (cond (decide (a2 < a1))
 (if (0 : Int) ≤ a2 ∧ a2 < ((List.length a0 : Nat) : Int) then (if (List.length a3 + List.length (List.getD a0 (Int.toNat a2) ([] : List Int))) * 1 ≤ most ∧ 0 < 1 ∧ 0 < 1 then (let r4 : List Int := (a3 ++ (List.getD a0 (Int.toNat a2) ([] : List Int)))
  (let v5 : Int := (IntKind.i64.wrap (a2 + (1 : Int)))
  (kin (v5, r4)))) else none) else none)
 (k0 a3))
noncomputable def f102_l11_g (a0 : List (List Int)) (a1 : Int) (x : f102_l11_X) : Option (f102_l11_X ⊕ f102_l11_Y) := f102_l11_k a0 a1 x.1 x.2 (fun x => some (.inl x)) (fun y => some (.inr y))
noncomputable def f102_l11 (a0 : List (List Int)) (a1 : Int) (x : f102_l11_X) : Option f102_l11_Y := loopO (f102_l11_g a0 a1) x
noncomputable def f102_l11_nd : Node := { nils := [(6, 111, (.int .u8), .ro)], sk := f102_l11_sk, outs := f102_l11_outs, Y := f102_l11_Y, L := fun t => f102_l11 ((f102_l11_con t).1) ((f102_l11_con t).2) (f102_l11_get t), out := fun t y => f102_l11_out (f102_l11_con t) y, disp := fun t y K => (fun y => K (.exit 2) (f102_l11_o0.fill (f102_l11_w0 (f102_l11_con t) y))) y }
noncomputable def f102_fx : Fx := { E := env, T := [(133, f133_sm)], H := [], O := [], nodes := [((true, 3), f102_l3_nd), ((true, 11), f102_l11_nd)] }
noncomputable def f102_l3_b : Code := (loops f102_code).getD 0 .skip
theorem f102_l3_r (c : f102_l3_C) (x : f102_l3_X) : roundS f102_fx f102_l3_b f102_l3_nd (f102_l3_put c x) = f102_l3_k c.1 x.1 c.2.1 c.2.2 x.2 (fun x => some (.inl (f102_l3_put c x))) (fun y => some (.inr (.inl (f102_l3_w0 c y)))) := by kernel_rfl
theorem f102_l3_n {R : Type} (a0 : List (List Int)) (a1 : Int) (a2 : List (List Int)) (a3 : Int) (a4 : Int) (kin : f102_l3_X → Option R) (k0 : Int → Option R) : f102_l3_k a0 a1 a2 a3 a4 kin k0 = (f102_l3_g a0 a2 a3 (a1, a4)).bind (Sum.elim kin k0) := by
  simp only [f102_l3_g, f102_l3_k, cond_bind, ite_bind, bind_bind, some_bind, none_bind, elim_bind, Sum.elim_inl, Sum.elim_inr]
theorem f102_l3_ok : LoopOk f102_fx f102_l3_b f102_l3_nd := loop_ok f102_l3_con f102_l3_get f102_l3_put f102_l3_pg (fun c => f102_l3_g c.1 c.2.1 c.2.2) f102_l3_out (fun t y => rfl) (fun t y K => rfl) (fun c x => by
  refine (f102_l3_r c x).trans ((f102_l3_n _ _ _ _ _ _ _).trans ?_)
  first
  | rfl
  | congr 1
    funext s
    rcases s with s | s <;> rfl) (fun t => rfl)
noncomputable def f102_l11_b : Code := (loops f102_code).getD 1 .skip
theorem f102_l11_r (c : f102_l11_C) (x : f102_l11_X) : roundS f102_fx f102_l11_b f102_l11_nd (f102_l11_put c x) = f102_l11_k c.1 c.2 x.1 x.2 (fun x => some (.inl (f102_l11_put c x))) (fun y => some (.inr (.inl (f102_l11_w0 c y)))) := by kernel_rfl
theorem f102_l11_n {R : Type} (a0 : List (List Int)) (a1 : Int) (a2 : Int) (a3 : List Int) (kin : f102_l11_X → Option R) (k0 : List Int → Option R) : f102_l11_k a0 a1 a2 a3 kin k0 = (f102_l11_g a0 a1 (a2, a3)).bind (Sum.elim kin k0) := by
  simp only [f102_l11_g, f102_l11_k, cond_bind, ite_bind, bind_bind, some_bind, none_bind, elim_bind, Sum.elim_inl, Sum.elim_inr]
theorem f102_l11_ok : LoopOk f102_fx f102_l11_b f102_l11_nd := loop_ok f102_l11_con f102_l11_get f102_l11_put f102_l11_pg (fun c => f102_l11_g c.1 c.2) f102_l11_out (fun t y => rfl) (fun t y K => rfl) (fun c x => by
  refine (f102_l11_r c x).trans ((f102_l11_n _ _ _ _ _ _).trans ?_)
  first
  | rfl
  | congr 1
    funext s
    rcases s with s | s <;> rfl) (fun t => rfl)
noncomputable def f102_k {R : Type} (a0 : List (List Int)) (k : (List Int × Unit) × (Unit) → Option R) : Option R :=
 ((f102_l3 a0 a0 ((List.length a0 : Nat) : Int) ((0 : Int), (0 : Int))).bind fun y2 =>
 ((f133 () y2).bind fun r3 =>
 ((f102_l11 a0 ((List.length a0 : Nat) : Int) ((0 : Int), r3.1.1)).bind fun y6 =>
 (k ((y6, ()), ())))))
noncomputable def f102 (a0 : List (List Int)) : Option ((List Int × Unit) × (Unit)) := f102_k a0 some
noncomputable def f102_sm : Sm := ⟨[.ro (.slc (.slc (.int .u8)))], [((.slc (.int .u8)), .ro)], fun x => f102 x.1⟩
theorem f102_m (x : ArgT [.ro (.slc (.slc (.int .u8)))]) : codeS f102_fx f102_code (start [.ro (.slc (.slc (.int .u8)))] [] x 36) (finK env [.tmp 2] [.ro (.slc (.slc (.int .u8)))] [((.slc (.int .u8)), .ro)]) = f102_k x.1 (fun r => some (r, [])) := by kernel_rfl
theorem f102_n {R : Type} (a0 : List (List Int)) (k : (List Int × Unit) × (Unit) → Option R) : f102_k a0 k = (f102 a0).bind k := by
  simp only [f102, f102_k, cond_bind, ite_bind, bind_bind, some_bind, none_bind, elim_bind]
theorem f102_ok : SmOk Try.prog 102 f102_sm :=
  sum_of (c := f102_fx) (fn := Try.f102) (code := f102_code) (sm := f102_sm) mixed (env_ok env_envB) (TabsOk.all ⟨f133_c, trivial⟩) Try.func102 (by kernel_rfl)
   ((LoopsOk.of (l := [f102_l3_b, f102_l11_b]) (by kernel_rfl) ⟨node_is (by kernel_rfl) f102_l3_ok, node_is (by kernel_rfl) f102_l11_ok, trivial⟩))
   (no_tails (by kernel_rfl))
   (fun ks x hl => by
    have hk : ks = [] := List.length_eq_zero_iff.1 hl
    subst hk
    exact (f102_m x).trans (f102_n _ _))
theorem f102_c : CalOk Try.prog 102 f102_sm := .inl ⟨f102_ok, ⟨Try.f102, Try.func102, by kernel_rfl, by kernel_rfl⟩⟩
/-! bytes.IndexByte -/
noncomputable def f162_code : Code := (Try.f162.body).getD .skip
noncomputable def f162_fx : Fx := { E := env, T := [(166, e166_sm)], H := [], O := [], nodes := [] }
noncomputable def f162_k {R : Type} (a0 : List Int) (a1 : Int) (k : (Int × Unit) × (Unit) → Option R) : Option R :=
 ((e166 a0 a1).bind fun r0 =>
 (k ((r0.1.1, ()), ())))
noncomputable def f162 (a0 : List Int) (a1 : Int) : Option ((Int × Unit) × (Unit)) := f162_k a0 a1 some
noncomputable def f162_sm : Sm := ⟨[.ro (.slc (.int .u8)), .ro (.int .u8)], [((.int .i64), .ro)], fun x => f162 x.1 x.2.1⟩
theorem f162_m (x : ArgT [.ro (.slc (.int .u8)), .ro (.int .u8)]) : codeS f162_fx f162_code (start [.ro (.slc (.int .u8)), .ro (.int .u8)] [] x 8) (finK env [.tmp 4] [.ro (.slc (.int .u8)), .ro (.int .u8)] [((.int .i64), .ro)]) = f162_k x.1 x.2.1 (fun r => some (r, [])) := by kernel_rfl
theorem f162_n {R : Type} (a0 : List Int) (a1 : Int) (k : (Int × Unit) × (Unit) → Option R) : f162_k a0 a1 k = (f162 a0 a1).bind k := by
  simp only [f162, f162_k, cond_bind, ite_bind, bind_bind, some_bind, none_bind, elim_bind]
theorem f162_ok : SmOk Try.prog 162 f162_sm :=
  sum_of (c := f162_fx) (fn := Try.f162) (code := f162_code) (sm := f162_sm) mixed (env_ok env_envB) (TabsOk.all ⟨e166_c, trivial⟩) Try.func162 (by kernel_rfl)
   ((LoopsOk.of (l := []) (by kernel_rfl) trivial))
   (no_tails (by kernel_rfl))
   (fun ks x hl => by
    have hk : ks = [] := List.length_eq_zero_iff.1 hl
    subst hk
    exact (f162_m x).trans (f162_n _ _ _))
theorem f162_c : CalOk Try.prog 162 f162_sm := .inl ⟨f162_ok, ⟨Try.f162, Try.func162, by kernel_rfl, by kernel_rfl⟩⟩
/-! bytes.Equal -/
noncomputable def f143_code : Code := (Try.f143.body).getD .skip
noncomputable def f143_fx : Fx := { E := env, T := [], H := [], O := [], nodes := [] }
noncomputable def f143_k {R : Type} (a0 : List Int) (a1 : List Int) (k : (Bool × Unit) × (Unit) → Option R) : Option R :=
 (k (((strEq (b2s a0) (b2s a1)), ()), ()))
noncomputable def f143 (a0 : List Int) (a1 : List Int) : Option ((Bool × Unit) × (Unit)) := f143_k a0 a1 some
noncomputable def f143_sm : Sm := ⟨[.ro (.slc (.int .u8)), .ro (.slc (.int .u8))], [(.bool, .ro)], fun x => f143 x.1 x.2.1⟩
theorem f143_m (x : ArgT [.ro (.slc (.int .u8)), .ro (.slc (.int .u8))]) : codeS f143_fx f143_code (start [.ro (.slc (.int .u8)), .ro (.slc (.int .u8))] [] x 10) (finK env [.tmp 4] [.ro (.slc (.int .u8)), .ro (.slc (.int .u8))] [(.bool, .ro)]) = f143_k x.1 x.2.1 (fun r => some (r, [])) := by kernel_rfl
theorem f143_n {R : Type} (a0 : List Int) (a1 : List Int) (k : (Bool × Unit) × (Unit) → Option R) : f143_k a0 a1 k = (f143 a0 a1).bind k := by
  simp only [f143, f143_k, cond_bind, ite_bind, bind_bind, some_bind, none_bind, elim_bind]
theorem f143_ok : SmOk Try.prog 143 f143_sm :=
  sum_of (c := f143_fx) (fn := Try.f143) (code := f143_code) (sm := f143_sm) mixed (env_ok env_envB) (TabsOk.all trivial) Try.func143 (by kernel_rfl)
   ((LoopsOk.of (l := []) (by kernel_rfl) trivial))
   (no_tails (by kernel_rfl))
   (fun ks x hl => by
    have hk : ks = [] := List.length_eq_zero_iff.1 hl
    subst hk
    exact (f143_m x).trans (f143_n _ _ _))
theorem f143_c : CalOk Try.prog 143 f143_sm := .inl ⟨f143_ok, ⟨Try.f143, Try.func143, by kernel_rfl, by kernel_rfl⟩⟩
/-! bytes.Index -/
noncomputable def f151_code : Code := (Try.f151.body).getD .skip
noncomputable def f151_fx : Fx := { E := env, T := [(162, f162_sm), (143, f143_sm)], H := [], O := [], nodes := [] }
noncomputable def f151_k {R : Type} (a0 : List Int) (a1 : List Int) (k : (Int × Unit) × (Unit) → Option R) : Option R :=
 (cond (((List.length a1 : Nat) : Int) == (0 : Int))
 (k (((0 : Int), ()), ()))
 (cond (((List.length a1 : Nat) : Int) == (1 : Int))
  (if (0 : Int) ≤ (0 : Int) ∧ (0 : Int) < ((List.length a1 : Nat) : Int) then ((f162 a0 (List.getD a1 0 (0 : Int))).bind fun r0 =>
   (k ((r0.1.1, ()), ()))) else none)
  (cond (((List.length a1 : Nat) : Int) == ((List.length a0 : Nat) : Int))
   ((f143 a1 a0).bind fun r1 =>
    (cond r1.1.1
    (k (((0 : Int), ()), ()))
    (k (((-1 : Int), ()), ()))))
   (cond (decide (((List.length a1 : Nat) : Int) > ((List.length a0 : Nat) : Int)))
    (k (((-1 : Int), ()), ()))
    none))))
noncomputable def f151 (a0 : List Int) (a1 : List Int) : Option ((Int × Unit) × (Unit)) := f151_k a0 a1 some
noncomputable def f151_sm : Sm := ⟨[.ro (.slc (.int .u8)), .ro (.slc (.int .u8))], [((.int .i64), .ro)], fun x => f151 x.1 x.2.1⟩
theorem f151_m (x : ArgT [.ro (.slc (.int .u8)), .ro (.slc (.int .u8))]) : codeS f151_fx f151_code (start [.ro (.slc (.int .u8)), .ro (.slc (.int .u8))] [] x 200) (finK env [.tmp 4] [.ro (.slc (.int .u8)), .ro (.slc (.int .u8))] [((.int .i64), .ro)]) = f151_k x.1 x.2.1 (fun r => some (r, [])) := by kernel_rfl
theorem f151_n {R : Type} (a0 : List Int) (a1 : List Int) (k : (Int × Unit) × (Unit) → Option R) : f151_k a0 a1 k = (f151 a0 a1).bind k := by
  simp only [f151, f151_k, cond_bind, ite_bind, bind_bind, some_bind, none_bind, elim_bind]
theorem f151_ok : SmOk Try.prog 151 f151_sm :=
  sum_of (c := f151_fx) (fn := Try.f151) (code := f151_code) (sm := f151_sm) mixed (env_ok env_envB) (TabsOk.all ⟨f162_c, f143_c, trivial⟩) Try.func151 (by kernel_rfl)
   ((LoopsOk.of (l := [((loops f151_code).getD 0 .skip), ((loops f151_code).getD 1 .skip)]) (by kernel_rfl) ⟨node_no (by kernel_rfl), node_no (by kernel_rfl), trivial⟩))
   (no_tails (by kernel_rfl))
   (fun ks x hl => by
    have hk : ks = [] := List.length_eq_zero_iff.1 hl
    subst hk
    exact (f151_m x).trans (f151_n _ _ _))
theorem f151_c : CalOk Try.prog 151 f151_sm := .inl ⟨f151_ok, ⟨Try.f151, Try.func151, by kernel_rfl, by kernel_rfl⟩⟩
/-! bytes.Count -/
noncomputable def f121_code : Code := (Try.f121.body).getD .skip
noncomputable def f121_l6_sk : SkS := ⟨29, [(0, .con (.slc (.int .u8))), (0, .con (.slc (.int .u8))), (3, .con (.int .i64))], []⟩
noncomputable def f121_l6_o0 : SkS := ⟨30, [(4, .con (.int .i64))], []⟩
noncomputable def f121_l6_outs : List Way := [⟨.ret, [], f121_l6_o0⟩]
abbrev f121_l6_C := List Int
abbrev f121_l6_X := (List Int × Int)
abbrev f121_l6_Y := (Int)
noncomputable def f121_l6_con (t : f121_l6_sk.T) : f121_l6_C := t.1.2.1
noncomputable def f121_l6_get (t : f121_l6_sk.T) : f121_l6_X := (t.1.1, t.1.2.2.1)
noncomputable def f121_l6_put (c : f121_l6_C) (x : f121_l6_X) : f121_l6_sk.T := ((x.1, (c, (x.2, ()))), ())
theorem f121_l6_pg (t : f121_l6_sk.T) : f121_l6_put (f121_l6_con t) (f121_l6_get t) = t := by kernel_rfl
noncomputable def f121_l6_w0 (c : f121_l6_C) (y : Int) : f121_l6_o0.T := ((y, ()), ())
noncomputable def f121_l6_out (c : f121_l6_C) (y : f121_l6_Y) : OutV f121_l6_outs := (fun y => (.inl (f121_l6_w0 c y))) y
noncomputable def f121_l6_k {R : Type} (a0 : List Int) (a1 : List Int) (a2 : Int) (kin : f121_l6_X → Option R) (k0 : Int → Option R) : Option R :=
 ((f151 a0 a1).bind fun r1 =>
 (cond (r1.1.1 == (-1 : Int))
 (k0 a2)
 (let v2 : Int := (IntKind.i64.wrap (a2 + (1 : Int)))
  (let v3 : Int := (IntKind.i64.wrap (r1.1.1 + ((List.length a1 : Nat) : Int)))
  (if (0 : Int) ≤ v3 ∧ v3 ≤ ((List.length a0 : Nat) : Int) ∧ ((List.length a0 : Nat) : Int) ≤ ((List.length a0 : Nat) : Int) then (kin ((List.take ((Int.toNat ((List.length a0 : Nat) : Int)) - (Int.toNat v3)) (List.drop (Int.toNat v3) a0)), v2)) else none)))))
noncomputable def f121_l6_g (a1 : List Int) (x : f121_l6_X) : Option (f121_l6_X ⊕ f121_l6_Y) := f121_l6_k x.1 a1 x.2 (fun x => some (.inl x)) (fun y => some (.inr y))
noncomputable def f121_l6 (a1 : List Int) (x : f121_l6_X) : Option f121_l6_Y := loopO (f121_l6_g a1) x
noncomputable def f121_l6_nd : Node := { nils := [], sk := f121_l6_sk, outs := f121_l6_outs, Y := f121_l6_Y, L := fun t => f121_l6 ((f121_l6_con t)) (f121_l6_get t), out := fun t y => f121_l6_out (f121_l6_con t) y, disp := fun t y K => (fun y => K .ret (f121_l6_o0.fill (f121_l6_w0 (f121_l6_con t) y))) y }
noncomputable def f121_fx : Fx := { E := env, T := [(150, e150_sm), (151, f151_sm)], H := [], O := [], nodes := [((true, 6), f121_l6_nd)] }
noncomputable def f121_l6_b : Code := (loops f121_code).getD 0 .skip
theorem f121_l6_r (c : f121_l6_C) (x : f121_l6_X) : roundS f121_fx f121_l6_b f121_l6_nd (f121_l6_put c x) = f121_l6_k x.1 c x.2 (fun x => some (.inl (f121_l6_put c x))) (fun y => some (.inr (.inl (f121_l6_w0 c y)))) := by kernel_rfl
theorem f121_l6_n {R : Type} (a0 : List Int) (a1 : List Int) (a2 : Int) (kin : f121_l6_X → Option R) (k0 : Int → Option R) : f121_l6_k a0 a1 a2 kin k0 = (f121_l6_g a1 (a0, a2)).bind (Sum.elim kin k0) := by
  simp only [f121_l6_g, f121_l6_k, cond_bind, ite_bind, bind_bind, some_bind, none_bind, elim_bind, Sum.elim_inl, Sum.elim_inr]
theorem f121_l6_ok : LoopOk f121_fx f121_l6_b f121_l6_nd := loop_ok f121_l6_con f121_l6_get f121_l6_put f121_l6_pg (fun c => f121_l6_g c) f121_l6_out (fun t y => rfl) (fun t y K => rfl) (fun c x => by
  refine (f121_l6_r c x).trans ((f121_l6_n _ _ _ _ _).trans ?_)
  first
  | rfl
  | congr 1
    funext s
    rcases s with s | s <;> rfl) (fun t => rfl)
noncomputable def f121_k {R : Type} (a0 : List Int) (a1 : List Int) (k : (Int × Unit) × (Unit) → Option R) : Option R :=
 (cond (((List.length a1 : Nat) : Int) == (0 : Int))
 none
 (cond (((List.length a1 : Nat) : Int) == (1 : Int))
  (if (0 : Int) ≤ (0 : Int) ∧ (0 : Int) < ((List.length a1 : Nat) : Int) then ((e150 a0 (List.getD a1 0 (0 : Int))).bind fun r0 =>
   (k ((r0.1.1, ()), ()))) else none)
  ((f121_l6 a1 (a0, (0 : Int))).bind fun y4 =>
   (k ((y4, ()), ())))))
noncomputable def f121 (a0 : List Int) (a1 : List Int) : Option ((Int × Unit) × (Unit)) := f121_k a0 a1 some
noncomputable def f121_sm : Sm := ⟨[.ro (.slc (.int .u8)), .ro (.slc (.int .u8))], [((.int .i64), .ro)], fun x => f121 x.1 x.2.1⟩
theorem f121_m (x : ArgT [.ro (.slc (.int .u8)), .ro (.slc (.int .u8))]) : codeS f121_fx f121_code (start [.ro (.slc (.int .u8)), .ro (.slc (.int .u8))] [] x 35) (finK env [.tmp 4] [.ro (.slc (.int .u8)), .ro (.slc (.int .u8))] [((.int .i64), .ro)]) = f121_k x.1 x.2.1 (fun r => some (r, [])) := by kernel_rfl
theorem f121_n {R : Type} (a0 : List Int) (a1 : List Int) (k : (Int × Unit) × (Unit) → Option R) : f121_k a0 a1 k = (f121 a0 a1).bind k := by
  simp only [f121, f121_k, cond_bind, ite_bind, bind_bind, some_bind, none_bind, elim_bind]
theorem f121_ok : SmOk Try.prog 121 f121_sm :=
  sum_of (c := f121_fx) (fn := Try.f121) (code := f121_code) (sm := f121_sm) mixed (env_ok env_envB) (TabsOk.all ⟨e150_c, f151_c, trivial⟩) Try.func121 (by kernel_rfl)
   ((LoopsOk.of (l := [f121_l6_b]) (by kernel_rfl) ⟨node_is (by kernel_rfl) f121_l6_ok, trivial⟩))
   (no_tails (by kernel_rfl))
   (fun ks x hl => by
    have hk : ks = [] := List.length_eq_zero_iff.1 hl
    subst hk
    exact (f121_m x).trans (f121_n _ _ _))
theorem f121_c : CalOk Try.prog 121 f121_sm := .inl ⟨f121_ok, ⟨Try.f121, Try.func121, by kernel_rfl, by kernel_rfl⟩⟩
/-! bytes.Cut -/
noncomputable def f142_code : Code := (Try.f142.body).getD .skip
noncomputable def f142_fx : Fx := { E := env, T := [(151, f151_sm)], H := [], O := [], nodes := [] }
noncomputable def f142_k {R : Type} (a0 : List Int) (a1 : List Int) (k : (List Int × List Int × Bool × Unit) × (Unit) → Option R) : Option R :=
 ((f151 a0 a1).bind fun r0 =>
 (cond (decide (r0.1.1 ≥ (0 : Int)))
 (if (0 : Int) ≤ (0 : Int) ∧ (0 : Int) ≤ r0.1.1 ∧ r0.1.1 ≤ ((List.length a0 : Nat) : Int) then (let v1 : Int := (IntKind.i64.wrap (r0.1.1 + ((List.length a1 : Nat) : Int)))
  (if (0 : Int) ≤ v1 ∧ v1 ≤ ((List.length a0 : Nat) : Int) ∧ ((List.length a0 : Nat) : Int) ≤ ((List.length a0 : Nat) : Int) then (k (((List.take ((Int.toNat r0.1.1) - 0) (List.drop 0 a0)), ((List.take ((Int.toNat ((List.length a0 : Nat) : Int)) - (Int.toNat v1)) (List.drop (Int.toNat v1) a0)), (true, ()))), ())) else none)) else none)
 (k ((a0, ([], (false, ()))), ()))))
noncomputable def f142 (a0 : List Int) (a1 : List Int) : Option ((List Int × List Int × Bool × Unit) × (Unit)) := f142_k a0 a1 some
noncomputable def f142_sm : Sm := ⟨[.ro (.slc (.int .u8)), .ro (.slc (.int .u8))], [((.slc (.int .u8)), .ro), ((.slc (.int .u8)), .ro), (.bool, .ro)], fun x => f142 x.1 x.2.1⟩
theorem f142_m (x : ArgT [.ro (.slc (.int .u8)), .ro (.slc (.int .u8))]) : codeS f142_fx f142_code (start [.ro (.slc (.int .u8)), .ro (.slc (.int .u8))] [] x 23) (finK env [.tmp 4, .tmp 5, .tmp 6] [.ro (.slc (.int .u8)), .ro (.slc (.int .u8))] [((.slc (.int .u8)), .ro), ((.slc (.int .u8)), .ro), (.bool, .ro)]) = f142_k x.1 x.2.1 (fun r => some (r, [])) := by kernel_rfl
theorem f142_n {R : Type} (a0 : List Int) (a1 : List Int) (k : (List Int × List Int × Bool × Unit) × (Unit) → Option R) : f142_k a0 a1 k = (f142 a0 a1).bind k := by
  simp only [f142, f142_k, cond_bind, ite_bind, bind_bind, some_bind, none_bind, elim_bind]
theorem f142_ok : SmOk Try.prog 142 f142_sm :=
  sum_of (c := f142_fx) (fn := Try.f142) (code := f142_code) (sm := f142_sm) mixed (env_ok env_envB) (TabsOk.all ⟨f151_c, trivial⟩) Try.func142 (by kernel_rfl)
   ((LoopsOk.of (l := []) (by kernel_rfl) trivial))
   (no_tails (by kernel_rfl))
   (fun ks x hl => by
    have hk : ks = [] := List.length_eq_zero_iff.1 hl
    subst hk
    exact (f142_m x).trans (f142_n _ _ _))
theorem f142_c : CalOk Try.prog 142 f142_sm := .inl ⟨f142_ok, ⟨Try.f142, Try.func142, by kernel_rfl, by kernel_rfl⟩⟩
/-! slices.Clone[[]byte,byte] -/
noncomputable def f76_code : Code := (Try.f76.body).getD .skip
noncomputable def f76_fx : Fx := { E := env, T := [], H := [], O := [], nodes := [] }
noncomputable def f76_k {R : Type} (a0 : List Int) (k : (List Int × Unit) × (Unit) → Option R) : Option R :=
 (nilT (List.isEmpty a0)
 (k (([], ()), ()))
 (if (0 + List.length a0) * 1 ≤ most ∧ 0 < 1 ∧ 0 < 1 then (let r0 : List Int := ([] ++ a0)
  (k ((r0, ()), ()))) else none))
noncomputable def f76 (a0 : List Int) : Option ((List Int × Unit) × (Unit)) := f76_k a0 some
noncomputable def f76_sm : Sm := ⟨[.ro (.slc (.int .u8))], [((.slc (.int .u8)), (.own .ro))], fun x => f76 x.1⟩
theorem f76_m (x : ArgT [.ro (.slc (.int .u8))]) : codeS f76_fx f76_code (start [.ro (.slc (.int .u8))] [] x 8) (finK env [.tmp 2] [.ro (.slc (.int .u8))] [((.slc (.int .u8)), (.own .ro))]) = f76_k x.1 (fun r => some (r, [])) := by kernel_rfl
theorem f76_n {R : Type} (a0 : List Int) (k : (List Int × Unit) × (Unit) → Option R) : f76_k a0 k = (f76 a0).bind k := by
  simp only [f76, f76_k, cond_bind, ite_bind, bind_bind, some_bind, none_bind, elim_bind]
  rcases a0 with _ | ⟨x, l⟩ <;> simp [nilT, ite_bind, most]
theorem f76_ok : SmOk Try.prog 76 f76_sm :=
  sum_of (c := f76_fx) (fn := Try.f76) (code := f76_code) (sm := f76_sm) mixed (env_ok env_envB) (TabsOk.all trivial) Try.func76 (by kernel_rfl)
   ((LoopsOk.of (l := []) (by kernel_rfl) trivial))
   (no_tails (by kernel_rfl))
   (fun ks x hl => by
    have hk : ks = [] := List.length_eq_zero_iff.1 hl
    subst hk
    exact (f76_m x).trans (f76_n _ _))
theorem f76_c : CalOk Try.prog 76 f76_sm := .inl ⟨f76_ok, ⟨Try.f76, Try.func76, by kernel_rfl, by kernel_rfl⟩⟩
/-! internal/stringslite.IndexByte -/
noncomputable def f132_code : Code := (Try.f132.body).getD .skip
noncomputable def f132_fx : Fx := { E := env, T := [(154, e154_sm)], H := [], O := [], nodes := [] }
noncomputable def f132_k {R : Type} (a0 : ByteArray) (a1 : Int) (k : (Int × Unit) × (Unit) → Option R) : Option R :=
 ((e154 a0 a1).bind fun r0 =>
 (k ((r0.1.1, ()), ())))
noncomputable def f132 (a0 : ByteArray) (a1 : Int) : Option ((Int × Unit) × (Unit)) := f132_k a0 a1 some
noncomputable def f132_sm : Sm := ⟨[.ro .str, .ro (.int .u8)], [((.int .i64), .ro)], fun x => f132 x.1 x.2.1⟩
theorem f132_m (x : ArgT [.ro .str, .ro (.int .u8)]) : codeS f132_fx f132_code (start [.ro .str, .ro (.int .u8)] [] x 8) (finK env [.tmp 4] [.ro .str, .ro (.int .u8)] [((.int .i64), .ro)]) = f132_k x.1 x.2.1 (fun r => some (r, [])) := by kernel_rfl
theorem f132_n {R : Type} (a0 : ByteArray) (a1 : Int) (k : (Int × Unit) × (Unit) → Option R) : f132_k a0 a1 k = (f132 a0 a1).bind k := by
  simp only [f132, f132_k, cond_bind, ite_bind, bind_bind, some_bind, none_bind, elim_bind]
theorem f132_ok : SmOk Try.prog 132 f132_sm :=
  sum_of (c := f132_fx) (fn := Try.f132) (code := f132_code) (sm := f132_sm) mixed (env_ok env_envB) (TabsOk.all ⟨e154_c, trivial⟩) Try.func132 (by kernel_rfl)
   ((LoopsOk.of (l := []) (by kernel_rfl) trivial))
   (no_tails (by kernel_rfl))
   (fun ks x hl => by
    have hk : ks = [] := List.length_eq_zero_iff.1 hl
    subst hk
    exact (f132_m x).trans (f132_n _ _ _))
theorem f132_c : CalOk Try.prog 132 f132_sm := .inl ⟨f132_ok, ⟨Try.f132, Try.func132, by kernel_rfl, by kernel_rfl⟩⟩
/-! strings.IndexByte -/
noncomputable def f98_code : Code := (Try.f98.body).getD .skip
noncomputable def f98_fx : Fx := { E := env, T := [(132, f132_sm)], H := [], O := [], nodes := [] }
noncomputable def f98_k {R : Type} (a0 : ByteArray) (a1 : Int) (k : (Int × Unit) × (Unit) → Option R) : Option R :=
 ((f132 a0 a1).bind fun r0 =>
 (k ((r0.1.1, ()), ())))
noncomputable def f98 (a0 : ByteArray) (a1 : Int) : Option ((Int × Unit) × (Unit)) := f98_k a0 a1 some
noncomputable def f98_sm : Sm := ⟨[.ro .str, .ro (.int .u8)], [((.int .i64), .ro)], fun x => f98 x.1 x.2.1⟩
theorem f98_m (x : ArgT [.ro .str, .ro (.int .u8)]) : codeS f98_fx f98_code (start [.ro .str, .ro (.int .u8)] [] x 8) (finK env [.tmp 4] [.ro .str, .ro (.int .u8)] [((.int .i64), .ro)]) = f98_k x.1 x.2.1 (fun r => some (r, [])) := by kernel_rfl
theorem f98_n {R : Type} (a0 : ByteArray) (a1 : Int) (k : (Int × Unit) × (Unit) → Option R) : f98_k a0 a1 k = (f98 a0 a1).bind k := by
  simp only [f98, f98_k, cond_bind, ite_bind, bind_bind, some_bind, none_bind, elim_bind]
theorem f98_ok : SmOk Try.prog 98 f98_sm :=
  sum_of (c := f98_fx) (fn := Try.f98) (code := f98_code) (sm := f98_sm) mixed (env_ok env_envB) (TabsOk.all ⟨f132_c, trivial⟩) Try.func98 (by kernel_rfl)
   ((LoopsOk.of (l := []) (by kernel_rfl) trivial))
   (no_tails (by kernel_rfl))
   (fun ks x hl => by
    have hk : ks = [] := List.length_eq_zero_iff.1 hl
    subst hk
    exact (f98_m x).trans (f98_n _ _ _))
theorem f98_c : CalOk Try.prog 98 f98_sm := .inl ⟨f98_ok, ⟨Try.f98, Try.func98, by kernel_rfl, by kernel_rfl⟩⟩
/-! bakelite/bakeref2.Named -/
noncomputable def f40_code : Code := (Try.f40.body).getD .skip
noncomputable def f40_l4_sk : SkS := ⟨7, [(24, .con (.slc (.int .u8))), (0, .con (.int .i64)), (0, .con (.int .i64))], []⟩
noncomputable def f40_l4_o0 : SkS := ⟨31, [(2, .con .bool)], []⟩
noncomputable def f40_l4_o1 : SkS := ⟨34, [], []⟩
noncomputable def f40_l4_outs : List Way := [⟨.ret, [], f40_l4_o0⟩, ⟨(.exit 0), [], f40_l4_o1⟩]
abbrev f40_l4_C := (List Int × Int)
abbrev f40_l4_X := Int
abbrev f40_l4_Y := (Unit) ⊕ (Unit)
noncomputable def f40_l4_con (t : f40_l4_sk.T) : f40_l4_C := (t.1.1, t.1.2.1)
noncomputable def f40_l4_get (t : f40_l4_sk.T) : f40_l4_X := t.1.2.2.1
noncomputable def f40_l4_put (c : f40_l4_C) (x : f40_l4_X) : f40_l4_sk.T := ((c.1, (c.2, (x, ()))), ())
theorem f40_l4_pg (t : f40_l4_sk.T) : f40_l4_put (f40_l4_con t) (f40_l4_get t) = t := by kernel_rfl
noncomputable def f40_l4_w0 (c : f40_l4_C) (y : Unit) : f40_l4_o0.T := ((false, ()), ())
noncomputable def f40_l4_w1 (c : f40_l4_C) (y : Unit) : f40_l4_o1.T := ((), ())
noncomputable def f40_l4_out (c : f40_l4_C) (y : f40_l4_Y) : OutV f40_l4_outs := (Sum.elim (fun y => (.inl (f40_l4_w0 c y))) (fun y => (.inr (.inl (f40_l4_w1 c y))))) y
noncomputable def f40_l4_k {R : Type} (a0 : List Int) (a1 : Int) (a2 : Int) (kin : f40_l4_X → Option R) (k0 : Unit → Option R) (k1 : Unit → Option R) : Option R :=
 (cond (decide (a2 < a1))
 (if (0 : Int) ≤ a2 ∧ a2 < ((List.length a0 : Nat) : Int) then ((f98 (⟨#[97, 98, 99, 100, 101, 102, 103, 104, 105, 106, 107, 108, 109, 110, 111, 112, 113, 114, 115, 116, 117, 118, 119, 120, 121, 122, 48, 49, 50, 51, 52, 53, 54, 55, 56, 57, 45]⟩ : ByteArray) (List.getD a0 (Int.toNat a2) (0 : Int))).bind fun r0 =>
  (cond (decide (r0.1.1 < (0 : Int)))
  (k0 ())
  (let v1 : Int := (IntKind.i64.wrap (a2 + (1 : Int)))
   (kin v1)))) else none)
 (k1 ()))
noncomputable def f40_l4_g (a0 : List Int) (a1 : Int) (x : f40_l4_X) : Option (f40_l4_X ⊕ f40_l4_Y) := f40_l4_k a0 a1 x (fun x => some (.inl x)) (fun y => some (.inr (.inl y))) (fun y => some (.inr (.inr y)))
noncomputable def f40_l4 (a0 : List Int) (a1 : Int) (x : f40_l4_X) : Option f40_l4_Y := loopO (f40_l4_g a0 a1) x
noncomputable def f40_l4_nd : Node := { nils := [], sk := f40_l4_sk, outs := f40_l4_outs, Y := f40_l4_Y, L := fun t => f40_l4 ((f40_l4_con t).1) ((f40_l4_con t).2) (f40_l4_get t), out := fun t y => f40_l4_out (f40_l4_con t) y, disp := fun t y K => (Sum.elim (fun y => K .ret (f40_l4_o0.fill (f40_l4_w0 (f40_l4_con t) y))) (fun y => K (.exit 0) (f40_l4_o1.fill (f40_l4_w1 (f40_l4_con t) y)))) y }
noncomputable def f40_fx : Fx := { E := env, T := [(98, f98_sm)], H := [], O := [], nodes := [((true, 4), f40_l4_nd)] }
noncomputable def f40_l4_b : Code := (loops f40_code).getD 0 .skip
theorem f40_l4_r (c : f40_l4_C) (x : f40_l4_X) : roundS f40_fx f40_l4_b f40_l4_nd (f40_l4_put c x) = f40_l4_k c.1 c.2 x (fun x => some (.inl (f40_l4_put c x))) (fun y => some (.inr (.inl (f40_l4_w0 c y)))) (fun y => some (.inr (.inr (.inl (f40_l4_w1 c y))))) := by kernel_rfl
theorem f40_l4_n {R : Type} (a0 : List Int) (a1 : Int) (a2 : Int) (kin : f40_l4_X → Option R) (k0 : Unit → Option R) (k1 : Unit → Option R) : f40_l4_k a0 a1 a2 kin k0 k1 = (f40_l4_g a0 a1 a2).bind (Sum.elim kin (Sum.elim k0 k1)) := by
  simp only [f40_l4_g, f40_l4_k, cond_bind, ite_bind, bind_bind, some_bind, none_bind, elim_bind, Sum.elim_inl, Sum.elim_inr]
theorem f40_l4_ok : LoopOk f40_fx f40_l4_b f40_l4_nd := loop_ok f40_l4_con f40_l4_get f40_l4_put f40_l4_pg (fun c => f40_l4_g c.1 c.2) f40_l4_out (fun t y => rfl) (by intro R t y K; rcases y with y | y <;> rfl) (fun c x => by
  refine (f40_l4_r c x).trans ((f40_l4_n _ _ _ _ _ _).trans ?_)
  first
  | rfl
  | congr 1
    funext s
    rcases s with s | s | s <;> rfl) (fun t => rfl)
noncomputable def f40_k {R : Type} (a0 : ByteArray) (k : (Bool × Unit) × (Unit) → Option R) : Option R :=
 (cond (decide (((ByteArray.size a0 : Nat) : Int) < (1 : Int)))
 (k ((false, ()), ()))
 (cond (decide (((ByteArray.size a0 : Nat) : Int) > (20 : Int)))
  (k ((false, ()), ()))
  (if (0 : Int) ≤ (0 : Int) ∧ (0 : Int) < ((ByteArray.size a0 : Nat) : Int) then (cond (decide ((bt a0 (0 : Int)) < (97 : Int)))
   (k ((false, ()), ()))
   (if (0 : Int) ≤ (0 : Int) ∧ (0 : Int) < ((ByteArray.size a0 : Nat) : Int) then (cond (decide ((bt a0 (0 : Int)) > (122 : Int)))
    (k ((false, ()), ()))
    ((f40_l4 (s2b a0) ((List.length (s2b a0) : Nat) : Int) (0 : Int)).bind fun y2 =>
     ((Sum.elim (fun z3 =>
     (k ((false, ()), ())))
     (fun z4 =>
     (k ((true, ()), ())))) y2))) else none)) else none)))
noncomputable def f40 (a0 : ByteArray) : Option ((Bool × Unit) × (Unit)) := f40_k a0 some
noncomputable def f40_sm : Sm := ⟨[.ro .str], [(.bool, .ro)], fun x => f40 x.1⟩
theorem f40_m (x : ArgT [.ro .str]) : codeS f40_fx f40_code (start [.ro .str] [] x 34) (finK env [.tmp 2] [.ro .str] [(.bool, .ro)]) = f40_k x.1 (fun r => some (r, [])) := by kernel_rfl
theorem f40_n {R : Type} (a0 : ByteArray) (k : (Bool × Unit) × (Unit) → Option R) : f40_k a0 k = (f40 a0).bind k := by
  simp only [f40, f40_k, cond_bind, ite_bind, bind_bind, some_bind, none_bind, elim_bind]
theorem f40_ok : SmOk Try.prog 40 f40_sm :=
  sum_of (c := f40_fx) (fn := Try.f40) (code := f40_code) (sm := f40_sm) mixed (env_ok env_envB) (TabsOk.all ⟨f98_c, trivial⟩) Try.func40 (by kernel_rfl)
   ((LoopsOk.of (l := [f40_l4_b]) (by kernel_rfl) ⟨node_is (by kernel_rfl) f40_l4_ok, trivial⟩))
   (no_tails (by kernel_rfl))
   (fun ks x hl => by
    have hk : ks = [] := List.length_eq_zero_iff.1 hl
    subst hk
    exact (f40_m x).trans (f40_n _ _))
theorem f40_c : CalOk Try.prog 40 f40_sm := .inl ⟨f40_ok, ⟨Try.f40, Try.func40, by kernel_rfl, by kernel_rfl⟩⟩
/-! bakelite/bakeref2.chains$1 -/
noncomputable def f145_code : Code := (Try.f145.body).getD .skip
noncomputable def f145_fx : Fx := { E := env, T := [], H := [], O := [], nodes := [] }
noncomputable def f145_k {R : Type} (a0 : (Int × (ByteArray × (Int × (List Int × Unit))))) (a1 : List Int) (k : (Bool × Unit) × (Unit) → Option R) : Option R :=
 (k (((strEq a0.2.1 (b2s a1)), ()), ()))
noncomputable def f145 (a0 : (Int × (ByteArray × (Int × (List Int × Unit))))) (a1 : List Int) : Option ((Bool × Unit) × (Unit)) := f145_k a0 a1 some
noncomputable def f145_sm : Sm := ⟨[.ro (.pair (.int .i64) (.pair .str (.pair (.int .i64) (.pair (.slc (.int .i64)) .unit)))), .lk (.slc (.int .u8))], [(.bool, .ro)], fun x => f145 x.1 x.2.1⟩
theorem f145_m (x : ArgT [.ro (.pair (.int .i64) (.pair .str (.pair (.int .i64) (.pair (.slc (.int .i64)) .unit)))), .lk (.slc (.int .u8))]) : codeS f145_fx f145_code (start [.ro (.pair (.int .i64) (.pair .str (.pair (.int .i64) (.pair (.slc (.int .i64)) .unit)))), .lk (.slc (.int .u8))] [] x 9) (finK env [.tmp 3] [.ro (.pair (.int .i64) (.pair .str (.pair (.int .i64) (.pair (.slc (.int .i64)) .unit)))), .lk (.slc (.int .u8))] [(.bool, .ro)]) = f145_k x.1 x.2.1 (fun r => some (r, [])) := by kernel_rfl
theorem f145_n {R : Type} (a0 : (Int × (ByteArray × (Int × (List Int × Unit))))) (a1 : List Int) (k : (Bool × Unit) × (Unit) → Option R) : f145_k a0 a1 k = (f145 a0 a1).bind k := by
  simp only [f145, f145_k, cond_bind, ite_bind, bind_bind, some_bind, none_bind, elim_bind]
theorem f145_ok : SmOk Try.prog 145 f145_sm :=
  sum_of (c := f145_fx) (fn := Try.f145) (code := f145_code) (sm := f145_sm) mixed (env_ok env_envB) (TabsOk.all trivial) Try.func145 (by kernel_rfl)
   ((LoopsOk.of (l := []) (by kernel_rfl) trivial))
   (no_tails (by kernel_rfl))
   (fun ks x hl => by
    have hk : ks = [] := List.length_eq_zero_iff.1 hl
    subst hk
    exact (f145_m x).trans (f145_n _ _ _))
theorem f145_c : CalOk Try.prog 145 f145_sm := .inl ⟨f145_ok, ⟨Try.f145, Try.func145, by kernel_rfl, by kernel_rfl⟩⟩
/-! slices.IndexFunc[[]bakelite/bakeref2.link,bakelite/bakeref2.link] -/
noncomputable def f158_code : Code := (Try.f158.body).getD .skip
noncomputable def f158_l2_sk : SkS := ⟨10, [(0, .con (.slc (.pair (.int .i64) (.pair .str (.pair (.int .i64) (.pair (.slc (.int .i64)) .unit)))))), (0, .fn 145 (.tcons (.pro (.slc (.int .u8))) (.tnil))), (5, .con (.int .i64)), (0, .con (.int .i64))], []⟩
noncomputable def f158_l2_o0 : SkS := ⟨14, [(4, .con (.int .i64))], []⟩
noncomputable def f158_l2_o1 : SkS := ⟨19, [], []⟩
noncomputable def f158_l2_outs : List Way := [⟨.ret, [], f158_l2_o0⟩, ⟨(.exit 0), [], f158_l2_o1⟩]
abbrev f158_l2_C := (List (Int × (ByteArray × (Int × (List Int × Unit)))) × List Int × Int)
abbrev f158_l2_X := Int
abbrev f158_l2_Y := (Int) ⊕ (Unit)
noncomputable def f158_l2_con (t : f158_l2_sk.T) : f158_l2_C := (t.1.1, t.1.2.1.1, t.1.2.2.1)
noncomputable def f158_l2_get (t : f158_l2_sk.T) : f158_l2_X := t.1.2.2.2.1
noncomputable def f158_l2_put (c : f158_l2_C) (x : f158_l2_X) : f158_l2_sk.T := ((c.1, ((c.2.1, ()), (c.2.2, (x, ())))), ())
theorem f158_l2_pg (t : f158_l2_sk.T) : f158_l2_put (f158_l2_con t) (f158_l2_get t) = t := by kernel_rfl
noncomputable def f158_l2_w0 (c : f158_l2_C) (y : Int) : f158_l2_o0.T := ((y, ()), ())
noncomputable def f158_l2_w1 (c : f158_l2_C) (y : Unit) : f158_l2_o1.T := ((), ())
noncomputable def f158_l2_out (c : f158_l2_C) (y : f158_l2_Y) : OutV f158_l2_outs := (Sum.elim (fun y => (.inl (f158_l2_w0 c y))) (fun y => (.inr (.inl (f158_l2_w1 c y))))) y
noncomputable def f158_l2_k {R : Type} (a0 : List (Int × (ByteArray × (Int × (List Int × Unit))))) (a1 : List Int) (a2 : Int) (a3 : Int) (kin : f158_l2_X → Option R) (k0 : Int → Option R) (k1 : Unit → Option R) : Option R :=
 (cond (decide (a3 < a2))
 (if (0 : Int) ≤ a3 ∧ a3 < ((List.length a0 : Nat) : Int) then ((f145 (List.getD a0 (Int.toNat a3) ((0 : Int), (ByteArray.empty, ((0 : Int), (([] : List Int), ()))))) a1).bind fun r0 =>
  (cond r0.1.1
  (k0 a3)
  (let v1 : Int := (IntKind.i64.wrap (a3 + (1 : Int)))
   (kin v1)))) else none)
 (k1 ()))
noncomputable def f158_l2_g (a0 : List (Int × (ByteArray × (Int × (List Int × Unit))))) (a1 : List Int) (a2 : Int) (x : f158_l2_X) : Option (f158_l2_X ⊕ f158_l2_Y) := f158_l2_k a0 a1 a2 x (fun x => some (.inl x)) (fun y => some (.inr (.inl y))) (fun y => some (.inr (.inr y)))
noncomputable def f158_l2 (a0 : List (Int × (ByteArray × (Int × (List Int × Unit))))) (a1 : List Int) (a2 : Int) (x : f158_l2_X) : Option f158_l2_Y := loopO (f158_l2_g a0 a1 a2) x
noncomputable def f158_l2_nd : Node := { nils := [], sk := f158_l2_sk, outs := f158_l2_outs, Y := f158_l2_Y, L := fun t => f158_l2 ((f158_l2_con t).1) ((f158_l2_con t).2.1) ((f158_l2_con t).2.2) (f158_l2_get t), out := fun t y => f158_l2_out (f158_l2_con t) y, disp := fun t y K => (Sum.elim (fun y => K .ret (f158_l2_o0.fill (f158_l2_w0 (f158_l2_con t) y))) (fun y => K (.exit 0) (f158_l2_o1.fill (f158_l2_w1 (f158_l2_con t) y)))) y }
noncomputable def f158_fx : Fx := { E := env, T := [(145, f145_sm)], H := [], O := [], nodes := [((true, 2), f158_l2_nd)] }
noncomputable def f158_l2_b : Code := (loops f158_code).getD 0 .skip
theorem f158_l2_r (c : f158_l2_C) (x : f158_l2_X) : roundS f158_fx f158_l2_b f158_l2_nd (f158_l2_put c x) = f158_l2_k c.1 c.2.1 c.2.2 x (fun x => some (.inl (f158_l2_put c x))) (fun y => some (.inr (.inl (f158_l2_w0 c y)))) (fun y => some (.inr (.inr (.inl (f158_l2_w1 c y))))) := by kernel_rfl
theorem f158_l2_n {R : Type} (a0 : List (Int × (ByteArray × (Int × (List Int × Unit))))) (a1 : List Int) (a2 : Int) (a3 : Int) (kin : f158_l2_X → Option R) (k0 : Int → Option R) (k1 : Unit → Option R) : f158_l2_k a0 a1 a2 a3 kin k0 k1 = (f158_l2_g a0 a1 a2 a3).bind (Sum.elim kin (Sum.elim k0 k1)) := by
  simp only [f158_l2_g, f158_l2_k, cond_bind, ite_bind, bind_bind, some_bind, none_bind, elim_bind, Sum.elim_inl, Sum.elim_inr]
theorem f158_l2_ok : LoopOk f158_fx f158_l2_b f158_l2_nd := loop_ok f158_l2_con f158_l2_get f158_l2_put f158_l2_pg (fun c => f158_l2_g c.1 c.2.1 c.2.2) f158_l2_out (fun t y => rfl) (by intro R t y K; rcases y with y | y <;> rfl) (fun c x => by
  refine (f158_l2_r c x).trans ((f158_l2_n _ _ _ _ _ _ _).trans ?_)
  first
  | rfl
  | congr 1
    funext s
    rcases s with s | s | s <;> rfl) (fun t => rfl)
noncomputable def f158_k {R : Type} (a0 : List (Int × (ByteArray × (Int × (List Int × Unit))))) (a1 : (List Int × Unit)) (k : (Int × Unit) × (Unit) → Option R) : Option R :=
 ((f158_l2 a0 a1.1 ((List.length a0 : Nat) : Int) (0 : Int)).bind fun y2 =>
 ((Sum.elim (fun z3 =>
 (k ((z3, ()), ())))
 (fun z4 =>
 (k (((-1 : Int), ()), ())))) y2))
noncomputable def f158 (a0 : List (Int × (ByteArray × (Int × (List Int × Unit))))) (a1 : (List Int × Unit)) : Option ((Int × Unit) × (Unit)) := f158_k a0 a1 some
noncomputable def f158_sm : Sm := ⟨[.ro (.slc (.pair (.int .i64) (.pair .str (.pair (.int .i64) (.pair (.slc (.int .i64)) .unit))))), .fn 145 [(true, (.slc (.int .u8)))]], [((.int .i64), .ro)], fun x => f158 x.1 x.2.1⟩
theorem f158_m (x : ArgT [.ro (.slc (.pair (.int .i64) (.pair .str (.pair (.int .i64) (.pair (.slc (.int .i64)) .unit))))), .fn 145 [(true, (.slc (.int .u8)))]]) : codeS f158_fx f158_code (start [.ro (.slc (.pair (.int .i64) (.pair .str (.pair (.int .i64) (.pair (.slc (.int .i64)) .unit))))), .fn 145 [(true, (.slc (.int .u8)))]] [] x 19) (finK env [.tmp 4] [.ro (.slc (.pair (.int .i64) (.pair .str (.pair (.int .i64) (.pair (.slc (.int .i64)) .unit))))), .fn 145 [(true, (.slc (.int .u8)))]] [((.int .i64), .ro)]) = f158_k x.1 x.2.1 (fun r => some (r, [])) := by kernel_rfl
theorem f158_n {R : Type} (a0 : List (Int × (ByteArray × (Int × (List Int × Unit))))) (a1 : (List Int × Unit)) (k : (Int × Unit) × (Unit) → Option R) : f158_k a0 a1 k = (f158 a0 a1).bind k := by
  simp only [f158, f158_k, cond_bind, ite_bind, bind_bind, some_bind, none_bind, elim_bind]
theorem f158_ok : SmOk Try.prog 158 f158_sm :=
  sum_of (c := f158_fx) (fn := Try.f158) (code := f158_code) (sm := f158_sm) mixed (env_ok env_envB) (TabsOk.all ⟨f145_c, trivial⟩) Try.func158 (by kernel_rfl)
   ((LoopsOk.of (l := [f158_l2_b]) (by kernel_rfl) ⟨node_is (by kernel_rfl) f158_l2_ok, trivial⟩))
   (no_tails (by kernel_rfl))
   (fun ks x hl => by
    have hk : ks = [] := List.length_eq_zero_iff.1 hl
    subst hk
    exact (f158_m x).trans (f158_n _ _ _))
theorem f158_c : CalOk Try.prog 158 f158_sm := .inl ⟨f158_ok, ⟨Try.f158, Try.func158, by kernel_rfl, by kernel_rfl⟩⟩
/-! slices.ContainsFunc[[]bakelite/bakeref2.link,bakelite/bakeref2.link] -/
noncomputable def f144_code : Code := (Try.f144.body).getD .skip
noncomputable def f144_fx : Fx := { E := env, T := [(158, f158_sm)], H := [], O := [], nodes := [] }
noncomputable def f144_k {R : Type} (a0 : List (Int × (ByteArray × (Int × (List Int × Unit))))) (a1 : (List Int × Unit)) (k : (Bool × Unit) × (Unit) → Option R) : Option R :=
 ((f158 a0 (a1.1, ())).bind fun r0 =>
 (k (((decide (r0.1.1 ≥ (0 : Int))), ()), ())))
noncomputable def f144 (a0 : List (Int × (ByteArray × (Int × (List Int × Unit))))) (a1 : (List Int × Unit)) : Option ((Bool × Unit) × (Unit)) := f144_k a0 a1 some
noncomputable def f144_sm : Sm := ⟨[.ro (.slc (.pair (.int .i64) (.pair .str (.pair (.int .i64) (.pair (.slc (.int .i64)) .unit))))), .fn 145 [(true, (.slc (.int .u8)))]], [(.bool, .ro)], fun x => f144 x.1 x.2.1⟩
theorem f144_m (x : ArgT [.ro (.slc (.pair (.int .i64) (.pair .str (.pair (.int .i64) (.pair (.slc (.int .i64)) .unit))))), .fn 145 [(true, (.slc (.int .u8)))]]) : codeS f144_fx f144_code (start [.ro (.slc (.pair (.int .i64) (.pair .str (.pair (.int .i64) (.pair (.slc (.int .i64)) .unit))))), .fn 145 [(true, (.slc (.int .u8)))]] [] x 9) (finK env [.tmp 4] [.ro (.slc (.pair (.int .i64) (.pair .str (.pair (.int .i64) (.pair (.slc (.int .i64)) .unit))))), .fn 145 [(true, (.slc (.int .u8)))]] [(.bool, .ro)]) = f144_k x.1 x.2.1 (fun r => some (r, [])) := by kernel_rfl
theorem f144_n {R : Type} (a0 : List (Int × (ByteArray × (Int × (List Int × Unit))))) (a1 : (List Int × Unit)) (k : (Bool × Unit) × (Unit) → Option R) : f144_k a0 a1 k = (f144 a0 a1).bind k := by
  simp only [f144, f144_k, cond_bind, ite_bind, bind_bind, some_bind, none_bind, elim_bind]
theorem f144_ok : SmOk Try.prog 144 f144_sm :=
  sum_of (c := f144_fx) (fn := Try.f144) (code := f144_code) (sm := f144_sm) mixed (env_ok env_envB) (TabsOk.all ⟨f158_c, trivial⟩) Try.func144 (by kernel_rfl)
   ((LoopsOk.of (l := []) (by kernel_rfl) trivial))
   (no_tails (by kernel_rfl))
   (fun ks x hl => by
    have hk : ks = [] := List.length_eq_zero_iff.1 hl
    subst hk
    exact (f144_m x).trans (f144_n _ _ _))
theorem f144_c : CalOk Try.prog 144 f144_sm := .inl ⟨f144_ok, ⟨Try.f144, Try.func144, by kernel_rfl, by kernel_rfl⟩⟩
/-! bakelite/bakeref2.chains -/
noncomputable def f116_code : Code := (Try.f116.body).getD .skip
noncomputable def f116_l9_sk : SkS := ⟨198, [(1, .ptr 16 []), (4, .con (.int .i64)), (0, .con (.slc (.int .u8))), (37, .con (.slc (.int .u8))), (0, .con (.int .i64)), (0, .con (.int .i64))], [(16, ⟨some 24, (.pair (.int .i64) (.pair (.int .i64) (.pair (.slc (.slc (.int .u8))) .unit))), .ro, none⟩)]⟩
noncomputable def f116_l9_o0 : SkS := ⟨241, [(2, .nil), (0, .nil), (0, .con (.int .i64))], []⟩
noncomputable def f116_l9_o1 : SkS := ⟨238, [(1, .ptr 16 []), (4, .con (.int .i64)), (0, .con (.slc (.int .u8)))], [(16, ⟨some 24, (.pair (.int .i64) (.pair (.int .i64) (.pair (.slc (.slc (.int .u8))) .unit))), .ro, none⟩)]⟩
noncomputable def f116_l9_outs : List Way := [⟨.ret, [], f116_l9_o0⟩, ⟨(.exit 0), [], f116_l9_o1⟩]
abbrev f116_l9_C := (Int × List Int × List Int × Int × (Int × (Int × (List (List Int) × Unit))) × (Option Nat))
abbrev f116_l9_X := Int
abbrev f116_l9_Y := (Unit) ⊕ (Unit)
noncomputable def f116_l9_con (t : f116_l9_sk.T) : f116_l9_C := (t.1.1, t.1.2.1, t.1.2.2.1, t.1.2.2.2.1, t.2.1.1, t.2.1.2)
noncomputable def f116_l9_get (t : f116_l9_sk.T) : f116_l9_X := t.1.2.2.2.2.1
noncomputable def f116_l9_put (c : f116_l9_C) (x : f116_l9_X) : f116_l9_sk.T := ((c.1, (c.2.1, (c.2.2.1, (c.2.2.2.1, (x, ()))))), ((c.2.2.2.2.1, c.2.2.2.2.2), ()))
theorem f116_l9_pg (t : f116_l9_sk.T) : f116_l9_put (f116_l9_con t) (f116_l9_get t) = t := by kernel_rfl
noncomputable def f116_l9_w0 (c : f116_l9_C) (y : Unit) : f116_l9_o0.T := (((3 : Int), ()), ())
noncomputable def f116_l9_w1 (c : f116_l9_C) (y : Unit) : f116_l9_o1.T := ((c.1, (c.2.1, ())), ((c.2.2.2.2.1, c.2.2.2.2.2), ()))
noncomputable def f116_l9_out (c : f116_l9_C) (y : f116_l9_Y) : OutV f116_l9_outs := (Sum.elim (fun y => (.inl (f116_l9_w0 c y))) (fun y => (.inr (.inl (f116_l9_w1 c y))))) y
noncomputable def f116_l9_k {R : Type} (a0 : Int) (a1 : List Int) (a2 : List Int) (a3 : Int) (a4 : Int) (a5 : (Int × (Int × (List (List Int) × Unit)))) (kin : f116_l9_X → Option R) (k0 : Unit → Option R) (k1 : Unit → Option R) : Option R :=
 (cond (decide (a4 < a3))
 (if (0 : Int) ≤ a4 ∧ a4 < ((List.length a2 : Nat) : Int) then (cond ((List.getD a2 (Int.toNat a4) (0 : Int)) == (255 : Int))
  (cond (decide (a4 < (10 : Int)))
   (cond (!((List.getD a2 (Int.toNat a4) (0 : Int)) == (253 : Int)))
    (k0 ())
    (let v2 : Int := (IntKind.i64.wrap (a4 + (1 : Int)))
     (kin v2)))
   (cond (decide (a4 ≥ a0))
    (cond (!((List.getD a2 (Int.toNat a4) (0 : Int)) == (253 : Int)))
     (k0 ())
     (let v3 : Int := (IntKind.i64.wrap (a4 + (1 : Int)))
      (kin v3)))
    (let v4 : Int := (IntKind.i64.wrap (a4 + (1 : Int)))
     (kin v4))))
  (cond ((List.getD a2 (Int.toNat a4) (0 : Int)) == (254 : Int))
   (cond (decide (a4 < (10 : Int)))
    (cond (!((List.getD a2 (Int.toNat a4) (0 : Int)) == (253 : Int)))
     (k0 ())
     (let v5 : Int := (IntKind.i64.wrap (a4 + (1 : Int)))
      (kin v5)))
    (cond (decide (a4 ≥ a0))
     (cond (!((List.getD a2 (Int.toNat a4) (0 : Int)) == (253 : Int)))
      (k0 ())
      (let v6 : Int := (IntKind.i64.wrap (a4 + (1 : Int)))
       (kin v6)))
     (let v7 : Int := (IntKind.i64.wrap (a4 + (1 : Int)))
      (kin v7))))
   (cond (decide ((List.getD a2 (Int.toNat a4) (0 : Int)) ≥ (10 : Int)))
    (let v8 : Int := (IntKind.i64.wrap (List.getD a2 (Int.toNat a4) (0 : Int)))
     (cond (decide (a4 < (10 : Int)))
     (cond (!((List.getD a2 (Int.toNat a4) (0 : Int)) == (253 : Int)))
      (k0 ())
      (let v9 : Int := (IntKind.i64.wrap (a4 + (1 : Int)))
       (kin v9)))
     (cond (decide (a4 ≥ a0))
      (cond (!((List.getD a2 (Int.toNat a4) (0 : Int)) == (253 : Int)))
       (k0 ())
       (let v10 : Int := (IntKind.i64.wrap (a4 + (1 : Int)))
        (kin v10)))
      (cond (!(decide (v8 < a0)))
       (k0 ())
       (let v11 : Int := (IntKind.i64.wrap (a4 + (1 : Int)))
        (kin v11))))))
    (cond (decide (a4 < (10 : Int)))
     (cond (!((List.getD a2 (Int.toNat a4) (0 : Int)) == (253 : Int)))
      (k0 ())
      (let v12 : Int := (IntKind.i64.wrap (a4 + (1 : Int)))
       (kin v12)))
     (cond (decide (a4 ≥ a0))
      (cond (!((List.getD a2 (Int.toNat a4) (0 : Int)) == (253 : Int)))
       (k0 ())
       (let v13 : Int := (IntKind.i64.wrap (a4 + (1 : Int)))
        (kin v13)))
      (k0 ())))))) else none)
 (k1 ()))
noncomputable def f116_l9_g (a0 : Int) (a1 : List Int) (a2 : List Int) (a3 : Int) (a5 : (Int × (Int × (List (List Int) × Unit)))) (x : f116_l9_X) : Option (f116_l9_X ⊕ f116_l9_Y) := f116_l9_k a0 a1 a2 a3 x a5 (fun x => some (.inl x)) (fun y => some (.inr (.inl y))) (fun y => some (.inr (.inr y)))
noncomputable def f116_l9 (a0 : Int) (a1 : List Int) (a2 : List Int) (a3 : Int) (a5 : (Int × (Int × (List (List Int) × Unit)))) (x : f116_l9_X) : Option f116_l9_Y := loopO (f116_l9_g a0 a1 a2 a3 a5) x
noncomputable def f116_l9_nd : Node := { nils := [], sk := f116_l9_sk, outs := f116_l9_outs, Y := f116_l9_Y, L := fun t => f116_l9 ((f116_l9_con t).1) ((f116_l9_con t).2.1) ((f116_l9_con t).2.2.1) ((f116_l9_con t).2.2.2.1) ((f116_l9_con t).2.2.2.2.1) (f116_l9_get t), out := fun t y => f116_l9_out (f116_l9_con t) y, disp := fun t y K => (Sum.elim (fun y => K .ret (f116_l9_o0.fill (f116_l9_w0 (f116_l9_con t) y))) (fun y => K (.exit 0) (f116_l9_o1.fill (f116_l9_w1 (f116_l9_con t) y)))) y }
noncomputable def f116_l20_sk : SkS := ⟨161, [(6, .con (.int .i64)), (0, .con (.slc (.int .u8))), (3, .con (.slc (.int .u8))), (0, .ref 207 []), (71, .con (.int .i64))], [(207, ⟨none, (.slc (.pair (.int .i64) (.pair .str (.pair (.int .i64) (.pair (.slc (.int .i64)) .unit))))), (.own (.pair .ro (.pair .ro (.pair .ro (.pair (.own .ro) .ro))))), none⟩)]⟩
noncomputable def f116_l20_o0 : SkS := ⟨241, [(2, .nil), (0, .nil), (0, .con (.int .i64))], []⟩
noncomputable def f116_l20_o1 : SkS := ⟨233, [(6, .con (.int .i64)), (0, .con (.slc (.int .u8))), (3, .con (.slc (.int .u8))), (0, .ref 207 [])], [(207, ⟨none, (.slc (.pair (.int .i64) (.pair .str (.pair (.int .i64) (.pair (.slc (.int .i64)) .unit))))), (.own (.pair .ro (.pair .ro (.pair .ro (.pair (.own .ro) .ro))))), none⟩)]⟩
noncomputable def f116_l20_outs : List Way := [⟨.ret, [], f116_l20_o0⟩, ⟨(.exit 2), [], f116_l20_o1⟩]
abbrev f116_l20_C := (Int × List Int × List Int)
abbrev f116_l20_X := (Int × List (Int × (ByteArray × (Int × (List Int × Unit)))))
abbrev f116_l20_Y := (Int) ⊕ (List (Int × (ByteArray × (Int × (List Int × Unit)))))
noncomputable def f116_l20_con (t : f116_l20_sk.T) : f116_l20_C := (t.1.1, t.1.2.1, t.1.2.2.1)
noncomputable def f116_l20_get (t : f116_l20_sk.T) : f116_l20_X := (t.1.2.2.2.1, t.2.1.1)
noncomputable def f116_l20_put (c : f116_l20_C) (x : f116_l20_X) : f116_l20_sk.T := ((c.1, (c.2.1, (c.2.2, (x.1, ())))), ((x.2, ()), ()))
theorem f116_l20_pg (t : f116_l20_sk.T) : f116_l20_put (f116_l20_con t) (f116_l20_get t) = t := by kernel_rfl
noncomputable def f116_l20_w0 (c : f116_l20_C) (y : Int) : f116_l20_o0.T := ((y, ()), ())
noncomputable def f116_l20_w1 (c : f116_l20_C) (y : List (Int × (ByteArray × (Int × (List Int × Unit))))) : f116_l20_o1.T := ((c.1, (c.2.1, (c.2.2, ()))), ((y, ()), ()))
noncomputable def f116_l20_out (c : f116_l20_C) (y : f116_l20_Y) : OutV f116_l20_outs := (Sum.elim (fun y => (.inl (f116_l20_w0 c y))) (fun y => (.inr (.inl (f116_l20_w1 c y))))) y
noncomputable def f116_l20_k {R : Type} (a0 : Int) (a1 : List Int) (a2 : List Int) (a3 : Int) (a4 : List (Int × (ByteArray × (Int × (List Int × Unit))))) (kin : f116_l20_X → Option R) (k0 : Int → Option R) (k1 : List (Int × (ByteArray × (Int × (List Int × Unit)))) → Option R) : Option R :=
 (cond (decide (a3 < (32 : Int)))
 (let v18 : Int := (IntKind.i64.wrap ((32 : Int) * a3))
  (let v19 : Int := (IntKind.i64.wrap ((32 : Int) * a3))
  (let v20 : Int := (IntKind.i64.wrap (v19 + (32 : Int)))
  (if (0 : Int) ≤ v18 ∧ v18 ≤ v20 ∧ v20 ≤ ((List.length a2 : Nat) : Int) then (if (0 : Int) ≤ (0 : Int) ∧ (0 : Int) < ((List.length (List.take ((Int.toNat v20) - (Int.toNat v18)) (List.drop (Int.toNat v18) a2)) : Nat) : Int) then (cond ((List.getD (List.take ((Int.toNat v20) - (Int.toNat v18)) (List.drop (Int.toNat v18) a2)) 0 (0 : Int)) == (0 : Int))
  ((f121 (List.take ((Int.toNat v20) - (Int.toNat v18)) (List.drop (Int.toNat v18) a2)) [(0 : Int)]).bind fun r21 =>
   (cond (r21.1.1 != (32 : Int))
   (k0 (3 : Int))
   (let v22 : Int := (IntKind.i64.wrap (a3 + (1 : Int)))
    (kin (v22, a4)))))
  (if (0 : Int) ≤ (0 : Int) ∧ (0 : Int) ≤ (20 : Int) ∧ (20 : Int) ≤ ((List.length (List.take ((Int.toNat v20) - (Int.toNat v18)) (List.drop (Int.toNat v18) a2)) : Nat) : Int) then ((f142 (List.take 20 (List.drop 0 (List.take ((Int.toNat v20) - (Int.toNat v18)) (List.drop (Int.toNat v18) a2)))) [(0 : Int)]).bind fun r23 =>
   ((f76 r23.1.1).bind fun r24 =>
   (let v25 : Int := (IntKind.i64.wrap ((20 : Int) - ((List.length r23.1.1 : Nat) : Int)))
   (if (0 : Int) ≤ v25 ∧ v25 * 1 ≤ (most : Int) ∧ flat (.int .u8) = true ∧ 0 < 1 ∧ 0 < 1 then (if (List.length r24.1.1 + List.length (List.replicate (Int.toNat v25) (0 : Int))) * 1 ≤ most ∧ 0 < 1 ∧ 0 < 1 then (let r26 : List Int := (r24.1.1 ++ (List.replicate (Int.toNat v25) (0 : Int)))
   ((f40 (b2s r23.1.1)).bind fun r27 =>
   (cond (!r27.1.1)
   (k0 (15 : Int))
   (if (0 : Int) ≤ (0 : Int) ∧ (0 : Int) ≤ (20 : Int) ∧ (20 : Int) ≤ ((List.length (List.take ((Int.toNat v20) - (Int.toNat v18)) (List.drop (Int.toNat v18) a2)) : Nat) : Int) then ((f143 r26 (List.take 20 (List.drop 0 (List.take ((Int.toNat v20) - (Int.toNat v18)) (List.drop (Int.toNat v18) a2))))).bind fun r28 =>
    (cond (!r28.1.1)
    (k0 (15 : Int))
    (if (0 : Int) ≤ (23 : Int) ∧ (23 : Int) ≤ ((List.length (List.take ((Int.toNat v20) - (Int.toNat v18)) (List.drop (Int.toNat v18) a2)) : Nat) : Int) ∧ ((List.length (List.take ((Int.toNat v20) - (Int.toNat v18)) (List.drop (Int.toNat v18) a2)) : Nat) : Int) ≤ ((List.length (List.take ((Int.toNat v20) - (Int.toNat v18)) (List.drop (Int.toNat v18) a2)) : Nat) : Int) then ((f121 (List.take ((Int.toNat ((List.length (List.take ((Int.toNat v20) - (Int.toNat v18)) (List.drop (Int.toNat v18) a2)) : Nat) : Int)) - 23) (List.drop 23 (List.take ((Int.toNat v20) - (Int.toNat v18)) (List.drop (Int.toNat v18) a2)))) [(0 : Int)]).bind fun r29 =>
     (cond (r29.1.1 != (9 : Int))
     (k0 (15 : Int))
     ((f144 a4 (r23.1.1, ())).bind fun r30 =>
      (cond r30.1.1
      (k0 (5 : Int))
      (if (0 : Int) ≤ (21 : Int) ∧ (21 : Int) < ((List.length (List.take ((Int.toNat v20) - (Int.toNat v18)) (List.drop (Int.toNat v18) a2)) : Nat) : Int) then (let v31 : Int := (IntKind.i64.wrap (List.getD (List.take ((Int.toNat v20) - (Int.toNat v18)) (List.drop (Int.toNat v18) a2)) 21 (0 : Int)))
       (let v32 : Int := (IntKind.i64.wrap ((256 : Int) * v31))
       (if (0 : Int) ≤ (22 : Int) ∧ (22 : Int) < ((List.length (List.take ((Int.toNat v20) - (Int.toNat v18)) (List.drop (Int.toNat v18) a2)) : Nat) : Int) then (let v33 : Int := (IntKind.i64.wrap (List.getD (List.take ((Int.toNat v20) - (Int.toNat v18)) (List.drop (Int.toNat v18) a2)) 22 (0 : Int)))
       (let v34 : Int := (IntKind.i64.wrap (v32 + v33))
       (if (List.length a4 + 1) * 56 ≤ most ∧ 0 < 56 ∧ 0 < 4 then (let r35 : List (Int × (ByteArray × (Int × (List Int × Unit)))) := (a4 ++ [(a3, ((b2s r23.1.1), (v34, ([], ()))))])
       (let v36 : Int := (IntKind.i64.wrap (a3 + (1 : Int)))
       (kin (v36, r35)))) else none))) else none))) else none))))) else none))) else none)))) else none) else none)))) else none)) else none) else none))))
 (k1 a4))
noncomputable def f116_l20_g (a0 : Int) (a1 : List Int) (a2 : List Int) (x : f116_l20_X) : Option (f116_l20_X ⊕ f116_l20_Y) := f116_l20_k a0 a1 a2 x.1 x.2 (fun x => some (.inl x)) (fun y => some (.inr (.inl y))) (fun y => some (.inr (.inr y)))
noncomputable def f116_l20 (a0 : Int) (a1 : List Int) (a2 : List Int) (x : f116_l20_X) : Option f116_l20_Y := loopO (f116_l20_g a0 a1 a2) x
noncomputable def f116_l20_nd : Node := { nils := [(12, 207, (.pair (.int .i64) (.pair .str (.pair (.int .i64) (.pair (.slc (.int .i64)) .unit)))), (.pair .ro (.pair .ro (.pair .ro (.pair (.own .ro) .ro)))))], sk := f116_l20_sk, outs := f116_l20_outs, Y := f116_l20_Y, L := fun t => f116_l20 ((f116_l20_con t).1) ((f116_l20_con t).2.1) ((f116_l20_con t).2.2) (f116_l20_get t), out := fun t y => f116_l20_out (f116_l20_con t) y, disp := fun t y K => (Sum.elim (fun y => K .ret (f116_l20_o0.fill (f116_l20_w0 (f116_l20_con t) y))) (fun y => K (.exit 2) (f116_l20_o1.fill (f116_l20_w1 (f116_l20_con t) y)))) y }
noncomputable def f116_l39_sk : SkS := ⟨87, [(6, .con (.int .i64)), (0, .con (.slc (.int .u8))), (3, .con (.slc (.int .u8))), (0, .ref 207 []), (6, .ref 2480 []), (0, .con (.int .i64)), (0, .con (.int .u8)), (135, .con (.int .i64)), (0, .con (.int .i64))], [(207, ⟨none, (.slc (.pair (.int .i64) (.pair .str (.pair (.int .i64) (.pair (.slc (.int .i64)) .unit))))), (.own (.pair .ro (.pair .ro (.pair .ro (.pair (.own .ro) .ro))))), none⟩), (2480, ⟨none, (.mp (.int .i64) .bool), (.own (.own .ro)), none⟩)]⟩
noncomputable def f116_l39_o0 : SkS := ⟨241, [(2, .nil), (0, .nil), (0, .con (.int .i64))], []⟩
noncomputable def f116_l39_o1 : SkS := ⟨87, [(6, .con (.int .i64)), (0, .con (.slc (.int .u8))), (3, .con (.slc (.int .u8))), (0, .ref 207 []), (6, .ref 2480 []), (0, .con (.int .i64)), (136, .con (.int .i64)), (0, .con (.int .i64))], [(207, ⟨none, (.slc (.pair (.int .i64) (.pair .str (.pair (.int .i64) (.pair (.slc (.int .i64)) .unit))))), (.own (.pair .ro (.pair .ro (.pair .ro (.pair (.own .ro) .ro))))), none⟩), (2480, ⟨none, (.mp (.int .i64) .bool), (.own (.own .ro)), none⟩)]⟩
noncomputable def f116_l39_outs : List Way := [⟨.ret, [], f116_l39_o0⟩, ⟨(.exit 6), [], f116_l39_o1⟩]
abbrev f116_l39_C := (Int × List Int × List Int × Int × Int × Int)
abbrev f116_l39_X := (Int × List (Int × (ByteArray × (Int × (List Int × Unit)))) × List (Int × Bool))
abbrev f116_l39_Y := (Int) ⊕ ((List (Int × (ByteArray × (Int × (List Int × Unit)))) × List (Int × Bool)))
noncomputable def f116_l39_con (t : f116_l39_sk.T) : f116_l39_C := (t.1.1, t.1.2.1, t.1.2.2.1, t.1.2.2.2.1, t.1.2.2.2.2.2.1, t.1.2.2.2.2.2.2.1)
noncomputable def f116_l39_get (t : f116_l39_sk.T) : f116_l39_X := (t.1.2.2.2.2.1, t.2.1.1, t.2.2.1.1)
noncomputable def f116_l39_put (c : f116_l39_C) (x : f116_l39_X) : f116_l39_sk.T := ((c.1, (c.2.1, (c.2.2.1, (c.2.2.2.1, (x.1, (c.2.2.2.2.1, (c.2.2.2.2.2, ()))))))), ((x.2.1, ()), ((x.2.2, ()), ())))
theorem f116_l39_pg (t : f116_l39_sk.T) : f116_l39_put (f116_l39_con t) (f116_l39_get t) = t := by kernel_rfl
noncomputable def f116_l39_w0 (c : f116_l39_C) (y : Int) : f116_l39_o0.T := ((y, ()), ())
noncomputable def f116_l39_w1 (c : f116_l39_C) (y : (List (Int × (ByteArray × (Int × (List Int × Unit)))) × List (Int × Bool))) : f116_l39_o1.T := ((c.1, (c.2.1, (c.2.2.1, (c.2.2.2.1, (c.2.2.2.2.1, (c.2.2.2.2.2, ())))))), ((y.1, ()), ((y.2, ()), ())))
noncomputable def f116_l39_out (c : f116_l39_C) (y : f116_l39_Y) : OutV f116_l39_outs := (Sum.elim (fun y => (.inl (f116_l39_w0 c y))) (fun y => (.inr (.inl (f116_l39_w1 c y))))) y
noncomputable def f116_l39_k {R : Type} (a0 : Int) (a1 : List Int) (a2 : List Int) (a3 : Int) (a4 : Int) (a5 : Int) (a6 : Int) (a7 : List (Int × (ByteArray × (Int × (List Int × Unit))))) (a8 : List (Int × Bool)) (kin : f116_l39_X → Option R) (k0 : Int → Option R) (k1 : (List (Int × (ByteArray × (Int × (List Int × Unit)))) × List (Int × Bool)) → Option R) : Option R :=
 (cond (a4 != (254 : Int))
 (cond (decide ((IntKind.i64.wrap a4) < (10 : Int)))
  (k0 (3 : Int))
  (cond (decide ((IntKind.i64.wrap a4) ≥ a0))
   (k0 (3 : Int))
   (if (0 : Int) ≤ (IntKind.i64.wrap a4) ∧ (IntKind.i64.wrap a4) < ((List.length a1 : Nat) : Int) then (cond ((List.getD a1 (Int.toNat (IntKind.i64.wrap a4)) (0 : Int)) == (255 : Int))
    (k0 (3 : Int))
    (let v42 : Bool := ((mfind (.int .i64) .bool a8 (IntKind.i64.wrap a4)).getD false)
     (cond v42
     (k0 (10 : Int))
     (let r43 : List (Int × Bool) := (mset (.int .i64) .bool a8 (IntKind.i64.wrap a4) true)
      (if (0 : Int) ≤ a3 ∧ a3 < ((List.length a7 : Nat) : Int) then (if (0 : Int) ≤ a3 ∧ a3 < ((List.length a7 : Nat) : Int) then (if (Int.toNat a3) = (Int.toNat a3) then (if 0 < 1 ∧ (List.length (List.getD a7 (Int.toNat a3) ((0 : Int), (ByteArray.empty, ((0 : Int), (([] : List Int), ()))))).2.2.2.1 + 1) * 8 ≤ most ∧ 0 < 8 then (if (0 : Int) ≤ a4 ∧ a4 < ((List.length a1 : Nat) : Int) then (kin ((List.getD a1 (Int.toNat a4) (0 : Int)), (List.set a7 (Int.toNat a3) ((List.getD a7 (Int.toNat a3) ((0 : Int), (ByteArray.empty, ((0 : Int), (([] : List Int), ()))))).1, ((List.getD a7 (Int.toNat a3) ((0 : Int), (ByteArray.empty, ((0 : Int), (([] : List Int), ()))))).2.1, ((List.getD a7 (Int.toNat a3) ((0 : Int), (ByteArray.empty, ((0 : Int), (([] : List Int), ()))))).2.2.1, (((List.getD a7 (Int.toNat a3) ((0 : Int), (ByteArray.empty, ((0 : Int), (([] : List Int), ()))))).2.2.2.1 ++ [(IntKind.i64.wrap a4)]), (List.getD a7 (Int.toNat a3) ((0 : Int), (ByteArray.empty, ((0 : Int), (([] : List Int), ()))))).2.2.2.2))))), r43)) else none) else none) else none) else none) else none))))) else none)))
 (k1 (a7, a8)))
noncomputable def f116_l39_g (a0 : Int) (a1 : List Int) (a2 : List Int) (a3 : Int) (a5 : Int) (a6 : Int) (x : f116_l39_X) : Option (f116_l39_X ⊕ f116_l39_Y) := f116_l39_k a0 a1 a2 a3 x.1 a5 a6 x.2.1 x.2.2 (fun x => some (.inl x)) (fun y => some (.inr (.inl y))) (fun y => some (.inr (.inr y)))
noncomputable def f116_l39 (a0 : Int) (a1 : List Int) (a2 : List Int) (a3 : Int) (a5 : Int) (a6 : Int) (x : f116_l39_X) : Option f116_l39_Y := loopO (f116_l39_g a0 a1 a2 a3 a5 a6) x
noncomputable def f116_l39_nd : Node := { nils := [], sk := f116_l39_sk, outs := f116_l39_outs, Y := f116_l39_Y, L := fun t => f116_l39 ((f116_l39_con t).1) ((f116_l39_con t).2.1) ((f116_l39_con t).2.2.1) ((f116_l39_con t).2.2.2.1) ((f116_l39_con t).2.2.2.2.1) ((f116_l39_con t).2.2.2.2.2) (f116_l39_get t), out := fun t y => f116_l39_out (f116_l39_con t) y, disp := fun t y K => (Sum.elim (fun y => K .ret (f116_l39_o0.fill (f116_l39_w0 (f116_l39_con t) y))) (fun y => K (.exit 6) (f116_l39_o1.fill (f116_l39_w1 (f116_l39_con t) y)))) y }
noncomputable def f116_l36_sk : SkS := ⟨87, [(6, .con (.int .i64)), (0, .con (.slc (.int .u8))), (3, .con (.slc (.int .u8))), (0, .ref 207 []), (6, .ref 2480 []), (137, .con (.int .i64)), (0, .con (.int .i64))], [(207, ⟨none, (.slc (.pair (.int .i64) (.pair .str (.pair (.int .i64) (.pair (.slc (.int .i64)) .unit))))), (.own (.pair .ro (.pair .ro (.pair .ro (.pair (.own .ro) .ro))))), none⟩), (2480, ⟨none, (.mp (.int .i64) .bool), (.own (.own .ro)), none⟩)]⟩
noncomputable def f116_l36_o0 : SkS := ⟨241, [(2, .nil), (0, .nil), (0, .con (.int .i64))], []⟩
noncomputable def f116_l36_o1 : SkS := ⟨226, [(6, .con (.int .i64)), (0, .con (.slc (.int .u8))), (4, .ref 207 []), (6, .ref 2480 [])], [(207, ⟨none, (.slc (.pair (.int .i64) (.pair .str (.pair (.int .i64) (.pair (.slc (.int .i64)) .unit))))), (.own (.pair .ro (.pair .ro (.pair .ro (.pair (.own .ro) .ro))))), none⟩), (2480, ⟨none, (.mp (.int .i64) .bool), (.own (.own .ro)), none⟩)]⟩
noncomputable def f116_l36_outs : List Way := [⟨.ret, [], f116_l36_o0⟩, ⟨(.exit 4), [], f116_l36_o1⟩]
abbrev f116_l36_C := (Int × List Int × List Int × Int)
abbrev f116_l36_X := (Int × List (Int × (ByteArray × (Int × (List Int × Unit)))) × List (Int × Bool))
abbrev f116_l36_Y := (Int) ⊕ ((List (Int × (ByteArray × (Int × (List Int × Unit)))) × List (Int × Bool)))
noncomputable def f116_l36_con (t : f116_l36_sk.T) : f116_l36_C := (t.1.1, t.1.2.1, t.1.2.2.1, t.1.2.2.2.1)
noncomputable def f116_l36_get (t : f116_l36_sk.T) : f116_l36_X := (t.1.2.2.2.2.1, t.2.1.1, t.2.2.1.1)
noncomputable def f116_l36_put (c : f116_l36_C) (x : f116_l36_X) : f116_l36_sk.T := ((c.1, (c.2.1, (c.2.2.1, (c.2.2.2, (x.1, ()))))), ((x.2.1, ()), ((x.2.2, ()), ())))
theorem f116_l36_pg (t : f116_l36_sk.T) : f116_l36_put (f116_l36_con t) (f116_l36_get t) = t := by kernel_rfl
noncomputable def f116_l36_w0 (c : f116_l36_C) (y : Int) : f116_l36_o0.T := ((y, ()), ())
noncomputable def f116_l36_w1 (c : f116_l36_C) (y : (List (Int × (ByteArray × (Int × (List Int × Unit)))) × List (Int × Bool))) : f116_l36_o1.T := ((c.1, (c.2.1, ())), ((y.1, ()), ((y.2, ()), ())))
noncomputable def f116_l36_out (c : f116_l36_C) (y : f116_l36_Y) : OutV f116_l36_outs := (Sum.elim (fun y => (.inl (f116_l36_w0 c y))) (fun y => (.inr (.inl (f116_l36_w1 c y))))) y
noncomputable def f116_l36_k {R : Type} (a0 : Int) (a1 : List Int) (a2 : List Int) (a3 : Int) (a4 : Int) (a5 : List (Int × (ByteArray × (Int × (List Int × Unit))))) (a6 : List (Int × Bool)) (kin : f116_l36_X → Option R) (k0 : Int → Option R) (k1 : (List (Int × (ByteArray × (Int × (List Int × Unit)))) × List (Int × Bool)) → Option R) : Option R :=
 (cond (decide (a4 < a3))
 (if (0 : Int) ≤ a4 ∧ a4 < ((List.length a5 : Nat) : Int) then (let v40 : Int := (IntKind.i64.wrap ((32 : Int) * (List.getD a5 (Int.toNat a4) ((0 : Int), (ByteArray.empty, ((0 : Int), (([] : List Int), ()))))).1))
  (let v41 : Int := (IntKind.i64.wrap (v40 + (20 : Int)))
  (if (0 : Int) ≤ v41 ∧ v41 < ((List.length a2 : Nat) : Int) then ((f116_l39 a0 a1 a2 a4 a3 a4 ((List.getD a2 (Int.toNat v41) (0 : Int)), a5, a6)).bind fun y44 =>
  ((Sum.elim (fun z45 =>
  (k0 z45))
  (fun z46 =>
  (if (0 : Int) ≤ a4 ∧ a4 < ((List.length z46.1 : Nat) : Int) then (let v47 : Int := (IntKind.i64.wrap ((List.getD z46.1 (Int.toNat a4) ((0 : Int), (ByteArray.empty, ((0 : Int), (([] : List Int), ()))))).2.2.1 + (127 : Int)))
   (let v48 : Int := (IntKind.i64.wrap (Int.tdiv v47 (128 : Int)))
   (if (0 : Int) ≤ a4 ∧ a4 < ((List.length z46.1 : Nat) : Int) then (cond (v48 != ((List.length (List.getD z46.1 (Int.toNat a4) ((0 : Int), (ByteArray.empty, ((0 : Int), (([] : List Int), ()))))).2.2.2.1 : Nat) : Int))
   (k0 (12 : Int))
   (let v49 : Int := (IntKind.i64.wrap (a4 + (1 : Int)))
    (kin (v49, z46.1, z46.2)))) else none))) else none))) y44)) else none))) else none)
 (k1 (a5, a6)))
noncomputable def f116_l36_g (a0 : Int) (a1 : List Int) (a2 : List Int) (a3 : Int) (x : f116_l36_X) : Option (f116_l36_X ⊕ f116_l36_Y) := f116_l36_k a0 a1 a2 a3 x.1 x.2.1 x.2.2 (fun x => some (.inl x)) (fun y => some (.inr (.inl y))) (fun y => some (.inr (.inr y)))
noncomputable def f116_l36 (a0 : Int) (a1 : List Int) (a2 : List Int) (a3 : Int) (x : f116_l36_X) : Option f116_l36_Y := loopO (f116_l36_g a0 a1 a2 a3) x
noncomputable def f116_l36_nd : Node := { nils := [], sk := f116_l36_sk, outs := f116_l36_outs, Y := f116_l36_Y, L := fun t => f116_l36 ((f116_l36_con t).1) ((f116_l36_con t).2.1) ((f116_l36_con t).2.2.1) ((f116_l36_con t).2.2.2) (f116_l36_get t), out := fun t y => f116_l36_out (f116_l36_con t) y, disp := fun t y K => (Sum.elim (fun y => K .ret (f116_l36_o0.fill (f116_l36_w0 (f116_l36_con t) y))) (fun y => K (.exit 4) (f116_l36_o1.fill (f116_l36_w1 (f116_l36_con t) y)))) y }
noncomputable def f116_l53_sk : SkS := ⟨221, [(6, .con (.int .i64)), (0, .con (.slc (.int .u8))), (4, .ref 207 []), (6, .ref 2480 []), (4, .con (.int .i64))], [(207, ⟨none, (.slc (.pair (.int .i64) (.pair .str (.pair (.int .i64) (.pair (.slc (.int .i64)) .unit))))), (.own (.pair .ro (.pair .ro (.pair .ro (.pair (.own .ro) .ro))))), none⟩), (2480, ⟨none, (.mp (.int .i64) .bool), (.own (.own .ro)), none⟩)]⟩
noncomputable def f116_l53_o0 : SkS := ⟨241, [(2, .nil), (0, .nil), (0, .con (.int .i64))], []⟩
noncomputable def f116_l53_o1 : SkS := ⟨233, [(7, .con (.slc (.int .u8))), (4, .ref 207 [])], [(207, ⟨none, (.slc (.pair (.int .i64) (.pair .str (.pair (.int .i64) (.pair (.slc (.int .i64)) .unit))))), (.own (.pair .ro (.pair .ro (.pair .ro (.pair (.own .ro) .ro))))), none⟩)]⟩
noncomputable def f116_l53_outs : List Way := [⟨.ret, [], f116_l53_o0⟩, ⟨(.exit 9), [], f116_l53_o1⟩]
abbrev f116_l53_C := (Int × List Int × List (Int × (ByteArray × (Int × (List Int × Unit)))) × List (Int × Bool))
abbrev f116_l53_X := Int
abbrev f116_l53_Y := (Unit) ⊕ (Unit)
noncomputable def f116_l53_con (t : f116_l53_sk.T) : f116_l53_C := (t.1.1, t.1.2.1, t.2.1.1, t.2.2.1.1)
noncomputable def f116_l53_get (t : f116_l53_sk.T) : f116_l53_X := t.1.2.2.1
noncomputable def f116_l53_put (c : f116_l53_C) (x : f116_l53_X) : f116_l53_sk.T := ((c.1, (c.2.1, (x, ()))), ((c.2.2.1, ()), ((c.2.2.2, ()), ())))
theorem f116_l53_pg (t : f116_l53_sk.T) : f116_l53_put (f116_l53_con t) (f116_l53_get t) = t := by kernel_rfl
noncomputable def f116_l53_w0 (c : f116_l53_C) (y : Unit) : f116_l53_o0.T := (((7 : Int), ()), ())
noncomputable def f116_l53_w1 (c : f116_l53_C) (y : Unit) : f116_l53_o1.T := ((c.2.1, ()), ((c.2.2.1, ()), ()))
noncomputable def f116_l53_out (c : f116_l53_C) (y : f116_l53_Y) : OutV f116_l53_outs := (Sum.elim (fun y => (.inl (f116_l53_w0 c y))) (fun y => (.inr (.inl (f116_l53_w1 c y))))) y
noncomputable def f116_l53_k {R : Type} (a0 : Int) (a1 : List Int) (a2 : Int) (a3 : List (Int × (ByteArray × (Int × (List Int × Unit))))) (a4 : List (Int × Bool)) (kin : f116_l53_X → Option R) (k0 : Unit → Option R) (k1 : Unit → Option R) : Option R :=
 (cond (decide (a2 < a0))
 (let v53 : Bool := ((mfind (.int .i64) .bool a4 a2).getD false)
  (cond (!v53)
  (if (0 : Int) ≤ a2 ∧ a2 < ((List.length a1 : Nat) : Int) then (cond ((List.getD a1 (Int.toNat a2) (0 : Int)) != (255 : Int))
   (k0 ())
   (let v54 : Int := (IntKind.i64.wrap (a2 + (1 : Int)))
    (kin v54))) else none)
  (let v55 : Int := (IntKind.i64.wrap (a2 + (1 : Int)))
   (kin v55))))
 (k1 ()))
noncomputable def f116_l53_g (a0 : Int) (a1 : List Int) (a3 : List (Int × (ByteArray × (Int × (List Int × Unit))))) (a4 : List (Int × Bool)) (x : f116_l53_X) : Option (f116_l53_X ⊕ f116_l53_Y) := f116_l53_k a0 a1 x a3 a4 (fun x => some (.inl x)) (fun y => some (.inr (.inl y))) (fun y => some (.inr (.inr y)))
noncomputable def f116_l53 (a0 : Int) (a1 : List Int) (a3 : List (Int × (ByteArray × (Int × (List Int × Unit))))) (a4 : List (Int × Bool)) (x : f116_l53_X) : Option f116_l53_Y := loopO (f116_l53_g a0 a1 a3 a4) x
noncomputable def f116_l53_nd : Node := { nils := [], sk := f116_l53_sk, outs := f116_l53_outs, Y := f116_l53_Y, L := fun t => f116_l53 ((f116_l53_con t).1) ((f116_l53_con t).2.1) ((f116_l53_con t).2.2.1) ((f116_l53_con t).2.2.2) (f116_l53_get t), out := fun t y => f116_l53_out (f116_l53_con t) y, disp := fun t y K => (Sum.elim (fun y => K .ret (f116_l53_o0.fill (f116_l53_w0 (f116_l53_con t) y))) (fun y => K (.exit 9) (f116_l53_o1.fill (f116_l53_w1 (f116_l53_con t) y)))) y }
noncomputable def f116_fx : Fx := { E := env, T := [(17, f17_sm), (102, f102_sm), (121, f121_sm), (142, f142_sm), (76, f76_sm), (40, f40_sm), (143, f143_sm), (144, f144_sm)], H := [(43, .ro), (105, .ro), (152, (.own (.pair .ro (.pair .ro (.pair .ro (.pair (.own .ro) .ro)))))), (153, (.own (.pair .ro (.pair .ro (.pair .ro (.pair (.own .ro) .ro))))))], O := [], nodes := [((true, 9), f116_l9_nd), ((true, 20), f116_l20_nd), ((true, 39), f116_l39_nd), ((true, 36), f116_l36_nd), ((true, 53), f116_l53_nd)] }
noncomputable def f116_l9_b : Code := (loops f116_code).getD 0 .skip
theorem f116_l9_r (c : f116_l9_C) (x : f116_l9_X) : roundS f116_fx f116_l9_b f116_l9_nd (f116_l9_put c x) = f116_l9_k c.1 c.2.1 c.2.2.1 c.2.2.2.1 x c.2.2.2.2.1 (fun x => some (.inl (f116_l9_put c x))) (fun y => some (.inr (.inl (f116_l9_w0 c y)))) (fun y => some (.inr (.inr (.inl (f116_l9_w1 c y))))) := by kernel_rfl
theorem f116_l9_n {R : Type} (a0 : Int) (a1 : List Int) (a2 : List Int) (a3 : Int) (a4 : Int) (a5 : (Int × (Int × (List (List Int) × Unit)))) (kin : f116_l9_X → Option R) (k0 : Unit → Option R) (k1 : Unit → Option R) : f116_l9_k a0 a1 a2 a3 a4 a5 kin k0 k1 = (f116_l9_g a0 a1 a2 a3 a5 a4).bind (Sum.elim kin (Sum.elim k0 k1)) := by
  simp only [f116_l9_g, f116_l9_k, cond_bind, ite_bind, bind_bind, some_bind, none_bind, elim_bind, Sum.elim_inl, Sum.elim_inr]
theorem f116_l9_ok : LoopOk f116_fx f116_l9_b f116_l9_nd := loop_ok f116_l9_con f116_l9_get f116_l9_put f116_l9_pg (fun c => f116_l9_g c.1 c.2.1 c.2.2.1 c.2.2.2.1 c.2.2.2.2.1) f116_l9_out (fun t y => rfl) (by intro R t y K; rcases y with y | y <;> rfl) (fun c x => by
  refine (f116_l9_r c x).trans ((f116_l9_n _ _ _ _ _ _ _ _ _).trans ?_)
  first
  | rfl
  | congr 1
    funext s
    rcases s with s | s | s <;> rfl) (fun t => rfl)
noncomputable def f116_l20_b : Code := (loops f116_code).getD 1 .skip
theorem f116_l20_r (c : f116_l20_C) (x : f116_l20_X) : roundS f116_fx f116_l20_b f116_l20_nd (f116_l20_put c x) = f116_l20_k c.1 c.2.1 c.2.2 x.1 x.2 (fun x => some (.inl (f116_l20_put c x))) (fun y => some (.inr (.inl (f116_l20_w0 c y)))) (fun y => some (.inr (.inr (.inl (f116_l20_w1 c y))))) := by kernel_rfl
theorem f116_l20_n {R : Type} (a0 : Int) (a1 : List Int) (a2 : List Int) (a3 : Int) (a4 : List (Int × (ByteArray × (Int × (List Int × Unit))))) (kin : f116_l20_X → Option R) (k0 : Int → Option R) (k1 : List (Int × (ByteArray × (Int × (List Int × Unit)))) → Option R) : f116_l20_k a0 a1 a2 a3 a4 kin k0 k1 = (f116_l20_g a0 a1 a2 (a3, a4)).bind (Sum.elim kin (Sum.elim k0 k1)) := by
  simp only [f116_l20_g, f116_l20_k, cond_bind, ite_bind, bind_bind, some_bind, none_bind, elim_bind, Sum.elim_inl, Sum.elim_inr]
theorem f116_l20_ok : LoopOk f116_fx f116_l20_b f116_l20_nd := loop_ok f116_l20_con f116_l20_get f116_l20_put f116_l20_pg (fun c => f116_l20_g c.1 c.2.1 c.2.2) f116_l20_out (fun t y => rfl) (by intro R t y K; rcases y with y | y <;> rfl) (fun c x => by
  refine (f116_l20_r c x).trans ((f116_l20_n _ _ _ _ _ _ _ _).trans ?_)
  first
  | rfl
  | congr 1
    funext s
    rcases s with s | s | s <;> rfl) (fun t => rfl)
noncomputable def f116_l39_b : Code := (loops f116_code).getD 3 .skip
theorem f116_l39_r (c : f116_l39_C) (x : f116_l39_X) : roundS f116_fx f116_l39_b f116_l39_nd (f116_l39_put c x) = f116_l39_k c.1 c.2.1 c.2.2.1 c.2.2.2.1 x.1 c.2.2.2.2.1 c.2.2.2.2.2 x.2.1 x.2.2 (fun x => some (.inl (f116_l39_put c x))) (fun y => some (.inr (.inl (f116_l39_w0 c y)))) (fun y => some (.inr (.inr (.inl (f116_l39_w1 c y))))) := by kernel_rfl
theorem f116_l39_n {R : Type} (a0 : Int) (a1 : List Int) (a2 : List Int) (a3 : Int) (a4 : Int) (a5 : Int) (a6 : Int) (a7 : List (Int × (ByteArray × (Int × (List Int × Unit))))) (a8 : List (Int × Bool)) (kin : f116_l39_X → Option R) (k0 : Int → Option R) (k1 : (List (Int × (ByteArray × (Int × (List Int × Unit)))) × List (Int × Bool)) → Option R) : f116_l39_k a0 a1 a2 a3 a4 a5 a6 a7 a8 kin k0 k1 = (f116_l39_g a0 a1 a2 a3 a5 a6 (a4, a7, a8)).bind (Sum.elim kin (Sum.elim k0 k1)) := by
  simp only [f116_l39_g, f116_l39_k, cond_bind, ite_bind, bind_bind, some_bind, none_bind, elim_bind, Sum.elim_inl, Sum.elim_inr]
theorem f116_l39_ok : LoopOk f116_fx f116_l39_b f116_l39_nd := loop_ok f116_l39_con f116_l39_get f116_l39_put f116_l39_pg (fun c => f116_l39_g c.1 c.2.1 c.2.2.1 c.2.2.2.1 c.2.2.2.2.1 c.2.2.2.2.2) f116_l39_out (fun t y => rfl) (by intro R t y K; rcases y with y | y <;> rfl) (fun c x => by
  refine (f116_l39_r c x).trans ((f116_l39_n _ _ _ _ _ _ _ _ _ _ _ _).trans ?_)
  first
  | rfl
  | congr 1
    funext s
    rcases s with s | s | s <;> rfl) (fun t => rfl)
noncomputable def f116_l36_b : Code := (loops f116_code).getD 2 .skip
theorem f116_l36_r (c : f116_l36_C) (x : f116_l36_X) : roundS f116_fx f116_l36_b f116_l36_nd (f116_l36_put c x) = f116_l36_k c.1 c.2.1 c.2.2.1 c.2.2.2 x.1 x.2.1 x.2.2 (fun x => some (.inl (f116_l36_put c x))) (fun y => some (.inr (.inl (f116_l36_w0 c y)))) (fun y => some (.inr (.inr (.inl (f116_l36_w1 c y))))) := by kernel_rfl
theorem f116_l36_n {R : Type} (a0 : Int) (a1 : List Int) (a2 : List Int) (a3 : Int) (a4 : Int) (a5 : List (Int × (ByteArray × (Int × (List Int × Unit))))) (a6 : List (Int × Bool)) (kin : f116_l36_X → Option R) (k0 : Int → Option R) (k1 : (List (Int × (ByteArray × (Int × (List Int × Unit)))) × List (Int × Bool)) → Option R) : f116_l36_k a0 a1 a2 a3 a4 a5 a6 kin k0 k1 = (f116_l36_g a0 a1 a2 a3 (a4, a5, a6)).bind (Sum.elim kin (Sum.elim k0 k1)) := by
  simp only [f116_l36_g, f116_l36_k, cond_bind, ite_bind, bind_bind, some_bind, none_bind, elim_bind, Sum.elim_inl, Sum.elim_inr]
theorem f116_l36_ok : LoopOk f116_fx f116_l36_b f116_l36_nd := loop_ok f116_l36_con f116_l36_get f116_l36_put f116_l36_pg (fun c => f116_l36_g c.1 c.2.1 c.2.2.1 c.2.2.2) f116_l36_out (fun t y => rfl) (by intro R t y K; rcases y with y | y <;> rfl) (fun c x => by
  refine (f116_l36_r c x).trans ((f116_l36_n _ _ _ _ _ _ _ _ _ _).trans ?_)
  first
  | rfl
  | congr 1
    funext s
    rcases s with s | s | s <;> rfl) (fun t => rfl)
noncomputable def f116_l53_b : Code := (loops f116_code).getD 4 .skip
theorem f116_l53_r (c : f116_l53_C) (x : f116_l53_X) : roundS f116_fx f116_l53_b f116_l53_nd (f116_l53_put c x) = f116_l53_k c.1 c.2.1 x c.2.2.1 c.2.2.2 (fun x => some (.inl (f116_l53_put c x))) (fun y => some (.inr (.inl (f116_l53_w0 c y)))) (fun y => some (.inr (.inr (.inl (f116_l53_w1 c y))))) := by kernel_rfl
theorem f116_l53_n {R : Type} (a0 : Int) (a1 : List Int) (a2 : Int) (a3 : List (Int × (ByteArray × (Int × (List Int × Unit))))) (a4 : List (Int × Bool)) (kin : f116_l53_X → Option R) (k0 : Unit → Option R) (k1 : Unit → Option R) : f116_l53_k a0 a1 a2 a3 a4 kin k0 k1 = (f116_l53_g a0 a1 a3 a4 a2).bind (Sum.elim kin (Sum.elim k0 k1)) := by
  simp only [f116_l53_g, f116_l53_k, cond_bind, ite_bind, bind_bind, some_bind, none_bind, elim_bind, Sum.elim_inl, Sum.elim_inr]
theorem f116_l53_ok : LoopOk f116_fx f116_l53_b f116_l53_nd := loop_ok f116_l53_con f116_l53_get f116_l53_put f116_l53_pg (fun c => f116_l53_g c.1 c.2.1 c.2.2.1 c.2.2.2) f116_l53_out (fun t y => rfl) (by intro R t y K; rcases y with y | y <;> rfl) (fun c x => by
  refine (f116_l53_r c x).trans ((f116_l53_n _ _ _ _ _ _ _ _).trans ?_)
  first
  | rfl
  | congr 1
    funext s
    rcases s with s | s | s <;> rfl) (fun t => rfl)
noncomputable def f116_k {R : Type} (a0 : (Int × (Int × (List (List Int) × Unit)))) (k : (List (Int × (ByteArray × (Int × (List Int × Unit)))) × List Int × Int × Unit) × (Unit) → Option R) : Option R :=
 ((f17 a0).bind fun r0 =>
 (cond (r0.1.1 != (0 : Int))
 (k (([], ([], (r0.1.1, ()))), ()))
 (cond (decide (((List.length a0.2.2.1 : Nat) : Int) ≤ (10 : Int)))
  (k (([], ([], ((13 : Int), ()))), ()))
  (if (0 : Int) ≤ (0 : Int) ∧ (0 : Int) < ((List.length a0.2.2.1 : Nat) : Int) then (if (0 : Int) ≤ (1 : Int) ∧ (1 : Int) < ((List.length a0.2.2.1 : Nat) : Int) then ((f102 [(List.getD a0.2.2.1 0 ([] : List Int)), (List.getD a0.2.2.1 1 ([] : List Int))]).bind fun r1 =>
   ((f116_l9 ((List.length a0.2.2.1 : Nat) : Int) r1.1.1 r1.1.1 ((List.length r1.1.1 : Nat) : Int) a0 (0 : Int)).bind fun y14 =>
   ((Sum.elim (fun z15 =>
   (k (([], ([], ((3 : Int), ()))), ())))
   (fun z16 =>
   (if (0 : Int) ≤ (2 : Int) ∧ (2 : Int) ≤ (10 : Int) ∧ (10 : Int) ≤ ((List.length a0.2.2.1 : Nat) : Int) then ((f102 (List.take 8 (List.drop 2 a0.2.2.1))).bind fun r17 =>
    ((f116_l20 ((List.length a0.2.2.1 : Nat) : Int) r1.1.1 r17.1.1 ((0 : Int), [])).bind fun y37 =>
    ((Sum.elim (fun z38 =>
    (k (([], ([], (z38, ()))), ())))
    (fun z39 =>
    ((f116_l36 ((List.length a0.2.2.1 : Nat) : Int) r1.1.1 r17.1.1 ((List.length z39 : Nat) : Int) ((0 : Int), z39, ([] : List (Int × Bool)))).bind fun y50 =>
     ((Sum.elim (fun z51 =>
     (k (([], ([], (z51, ()))), ())))
     (fun z52 =>
     ((f116_l53 ((List.length a0.2.2.1 : Nat) : Int) r1.1.1 z52.1 z52.2 (10 : Int)).bind fun y56 =>
      ((Sum.elim (fun z57 =>
      (k (([], ([], ((7 : Int), ()))), ())))
      (fun z58 =>
      (k ((z52.1, (r1.1.1, ((0 : Int), ()))), ())))) y56)))) y50)))) y37))) else none))) y14))) else none) else none))))
noncomputable def f116 (a0 : (Int × (Int × (List (List Int) × Unit)))) : Option ((List (Int × (ByteArray × (Int × (List Int × Unit)))) × List Int × Int × Unit) × (Unit)) := f116_k a0 some
noncomputable def f116_sm : Sm := ⟨[.ro (.pair (.int .i64) (.pair (.int .i64) (.pair (.slc (.slc (.int .u8))) .unit)))], [((.slc (.pair (.int .i64) (.pair .str (.pair (.int .i64) (.pair (.slc (.int .i64)) .unit))))), .ro), ((.slc (.int .u8)), .ro), ((.int .i64), .ro)], fun x => f116 x.1⟩
theorem f116_m (x : ArgT [.ro (.pair (.int .i64) (.pair (.int .i64) (.pair (.slc (.slc (.int .u8))) .unit)))]) : codeS f116_fx f116_code (start [.ro (.pair (.int .i64) (.pair (.int .i64) (.pair (.slc (.slc (.int .u8))) .unit)))] [] x 246) (finK env [.tmp 2, .tmp 3, .tmp 4] [.ro (.pair (.int .i64) (.pair (.int .i64) (.pair (.slc (.slc (.int .u8))) .unit)))] [((.slc (.pair (.int .i64) (.pair .str (.pair (.int .i64) (.pair (.slc (.int .i64)) .unit))))), .ro), ((.slc (.int .u8)), .ro), ((.int .i64), .ro)]) = f116_k x.1 (fun r => some (r, [])) := by kernel_rfl
theorem f116_n {R : Type} (a0 : (Int × (Int × (List (List Int) × Unit)))) (k : (List (Int × (ByteArray × (Int × (List Int × Unit)))) × List Int × Int × Unit) × (Unit) → Option R) : f116_k a0 k = (f116 a0).bind k := by
  simp only [f116, f116_k, cond_bind, ite_bind, bind_bind, some_bind, none_bind, elim_bind]
theorem f116_ok : SmOk Try.prog 116 f116_sm :=
  sum_of (c := f116_fx) (fn := Try.f116) (code := f116_code) (sm := f116_sm) mixed (env_ok env_envB) (TabsOk.all ⟨f17_c, f102_c, f121_c, f142_c, f76_c, f40_c, f143_c, f144_c, trivial⟩) Try.func116 (by kernel_rfl)
   ((LoopsOk.of (l := [f116_l9_b, f116_l20_b, f116_l36_b, f116_l39_b, f116_l53_b]) (by kernel_rfl) ⟨node_is (by kernel_rfl) f116_l9_ok, node_is (by kernel_rfl) f116_l20_ok, node_is (by kernel_rfl) f116_l36_ok, node_is (by kernel_rfl) f116_l39_ok, node_is (by kernel_rfl) f116_l53_ok, trivial⟩))
   (no_tails (by kernel_rfl))
   (fun ks x hl => by
    have hk : ks = [] := List.length_eq_zero_iff.1 hl
    subst hk
    exact (f116_m x).trans (f116_n _ _))
theorem f116_c : CalOk Try.prog 116 f116_sm := .inl ⟨f116_ok, ⟨Try.f116, Try.func116, by kernel_rfl, by kernel_rfl⟩⟩
/-! bakelite/bakeref2.ChainErr -/
noncomputable def f60_code : Code := (Try.f60.body).getD .skip
noncomputable def f60_fx : Fx := { E := env, T := [(116, f116_sm)], H := [], O := [], nodes := [] }
noncomputable def f60_k {R : Type} (a0 : (Int × (Int × (List (List Int) × Unit)))) (k : (Int × Unit) × (Unit) → Option R) : Option R :=
 ((f116 a0).bind fun r0 =>
 (k ((r0.1.2.2.1, ()), ())))
noncomputable def f60 (a0 : (Int × (Int × (List (List Int) × Unit)))) : Option ((Int × Unit) × (Unit)) := f60_k a0 some
noncomputable def f60_sm : Sm := ⟨[.ro (.pair (.int .i64) (.pair (.int .i64) (.pair (.slc (.slc (.int .u8))) .unit)))], [((.int .i64), .ro)], fun x => f60 x.1⟩
theorem f60_m (x : ArgT [.ro (.pair (.int .i64) (.pair (.int .i64) (.pair (.slc (.slc (.int .u8))) .unit)))]) : codeS f60_fx f60_code (start [.ro (.pair (.int .i64) (.pair (.int .i64) (.pair (.slc (.slc (.int .u8))) .unit)))] [] x 13) (finK env [.tmp 2] [.ro (.pair (.int .i64) (.pair (.int .i64) (.pair (.slc (.slc (.int .u8))) .unit)))] [((.int .i64), .ro)]) = f60_k x.1 (fun r => some (r, [])) := by kernel_rfl
theorem f60_n {R : Type} (a0 : (Int × (Int × (List (List Int) × Unit)))) (k : (Int × Unit) × (Unit) → Option R) : f60_k a0 k = (f60 a0).bind k := by
  simp only [f60, f60_k, cond_bind, ite_bind, bind_bind, some_bind, none_bind, elim_bind]
theorem f60_ok : SmOk Try.prog 60 f60_sm :=
  sum_of (c := f60_fx) (fn := Try.f60) (code := f60_code) (sm := f60_sm) mixed (env_ok env_envB) (TabsOk.all ⟨f116_c, trivial⟩) Try.func60 (by kernel_rfl)
   ((LoopsOk.of (l := []) (by kernel_rfl) trivial))
   (no_tails (by kernel_rfl))
   (fun ks x hl => by
    have hk : ks = [] := List.length_eq_zero_iff.1 hl
    subst hk
    exact (f60_m x).trans (f60_n _ _))
theorem f60_c : CalOk Try.prog 60 f60_sm := .inl ⟨f60_ok, ⟨Try.f60, Try.func60, by kernel_rfl, by kernel_rfl⟩⟩
/-! bakelite/image.Check -/
noncomputable def f16_code : Code := (Try.f16.body).getD .skip
noncomputable def f16_l6_sk : SkS := ⟨7, [(33, .con (.slc (.slc (.int .u8)))), (0, .con (.int .i64)), (0, .con (.int .i64))], []⟩
noncomputable def f16_l6_o0 : SkS := ⟨40, [(2, .con (.int .i64))], []⟩
noncomputable def f16_l6_o1 : SkS := ⟨43, [], []⟩
noncomputable def f16_l6_outs : List Way := [⟨.ret, [], f16_l6_o0⟩, ⟨(.exit 0), [], f16_l6_o1⟩]
abbrev f16_l6_C := (List (List Int) × Int)
abbrev f16_l6_X := Int
abbrev f16_l6_Y := (Unit) ⊕ (Unit)
noncomputable def f16_l6_con (t : f16_l6_sk.T) : f16_l6_C := (t.1.1, t.1.2.1)
noncomputable def f16_l6_get (t : f16_l6_sk.T) : f16_l6_X := t.1.2.2.1
noncomputable def f16_l6_put (c : f16_l6_C) (x : f16_l6_X) : f16_l6_sk.T := ((c.1, (c.2, (x, ()))), ())
theorem f16_l6_pg (t : f16_l6_sk.T) : f16_l6_put (f16_l6_con t) (f16_l6_get t) = t := by kernel_rfl
noncomputable def f16_l6_w0 (c : f16_l6_C) (y : Unit) : f16_l6_o0.T := (((3 : Int), ()), ())
noncomputable def f16_l6_w1 (c : f16_l6_C) (y : Unit) : f16_l6_o1.T := ((), ())
noncomputable def f16_l6_out (c : f16_l6_C) (y : f16_l6_Y) : OutV f16_l6_outs := (Sum.elim (fun y => (.inl (f16_l6_w0 c y))) (fun y => (.inr (.inl (f16_l6_w1 c y))))) y
noncomputable def f16_l6_k {R : Type} (a0 : List (List Int)) (a1 : Int) (a2 : Int) (kin : f16_l6_X → Option R) (k0 : Unit → Option R) (k1 : Unit → Option R) : Option R :=
 (cond (decide (a2 < a1))
 (if (0 : Int) ≤ a2 ∧ a2 < ((List.length a0 : Nat) : Int) then (cond (((List.length (List.getD a0 (Int.toNat a2) ([] : List Int)) : Nat) : Int) != (128 : Int))
  (k0 ())
  (let v1 : Int := (IntKind.i64.wrap (a2 + (1 : Int)))
   (kin v1))) else none)
 (k1 ()))
noncomputable def f16_l6_g (a0 : List (List Int)) (a1 : Int) (x : f16_l6_X) : Option (f16_l6_X ⊕ f16_l6_Y) := f16_l6_k a0 a1 x (fun x => some (.inl x)) (fun y => some (.inr (.inl y))) (fun y => some (.inr (.inr y)))
noncomputable def f16_l6 (a0 : List (List Int)) (a1 : Int) (x : f16_l6_X) : Option f16_l6_Y := loopO (f16_l6_g a0 a1) x
noncomputable def f16_l6_nd : Node := { nils := [], sk := f16_l6_sk, outs := f16_l6_outs, Y := f16_l6_Y, L := fun t => f16_l6 ((f16_l6_con t).1) ((f16_l6_con t).2) (f16_l6_get t), out := fun t y => f16_l6_out (f16_l6_con t) y, disp := fun t y K => (Sum.elim (fun y => K .ret (f16_l6_o0.fill (f16_l6_w0 (f16_l6_con t) y))) (fun y => K (.exit 0) (f16_l6_o1.fill (f16_l6_w1 (f16_l6_con t) y)))) y }
noncomputable def f16_fx : Fx := { E := env, T := [], H := [], O := [], nodes := [((true, 6), f16_l6_nd)] }
noncomputable def f16_l6_b : Code := (loops f16_code).getD 0 .skip
theorem f16_l6_r (c : f16_l6_C) (x : f16_l6_X) : roundS f16_fx f16_l6_b f16_l6_nd (f16_l6_put c x) = f16_l6_k c.1 c.2 x (fun x => some (.inl (f16_l6_put c x))) (fun y => some (.inr (.inl (f16_l6_w0 c y)))) (fun y => some (.inr (.inr (.inl (f16_l6_w1 c y))))) := by kernel_rfl
theorem f16_l6_n {R : Type} (a0 : List (List Int)) (a1 : Int) (a2 : Int) (kin : f16_l6_X → Option R) (k0 : Unit → Option R) (k1 : Unit → Option R) : f16_l6_k a0 a1 a2 kin k0 k1 = (f16_l6_g a0 a1 a2).bind (Sum.elim kin (Sum.elim k0 k1)) := by
  simp only [f16_l6_g, f16_l6_k, cond_bind, ite_bind, bind_bind, some_bind, none_bind, elim_bind, Sum.elim_inl, Sum.elim_inr]
theorem f16_l6_ok : LoopOk f16_fx f16_l6_b f16_l6_nd := loop_ok f16_l6_con f16_l6_get f16_l6_put f16_l6_pg (fun c => f16_l6_g c.1 c.2) f16_l6_out (fun t y => rfl) (by intro R t y K; rcases y with y | y <;> rfl) (fun c x => by
  refine (f16_l6_r c x).trans ((f16_l6_n _ _ _ _ _ _).trans ?_)
  first
  | rfl
  | congr 1
    funext s
    rcases s with s | s | s <;> rfl) (fun t => rfl)
noncomputable def f16_k {R : Type} (a0 : (Int × (Int × (List (List Int) × Unit)))) (k : (Int × Unit) × (Unit) → Option R) : Option R :=
 (cond (decide (a0.1 < (1 : Int)))
 (k (((1 : Int), ()), ()))
 (cond (decide (a0.1 > (20 : Int)))
  (k (((1 : Int), ()), ()))
  (cond (decide (a0.2.1 < (1 : Int)))
   (k (((1 : Int), ()), ()))
   (cond (decide (a0.2.1 > (12 : Int)))
    (k (((1 : Int), ()), ()))
    (let v0 : Int := (IntKind.i64.wrap (a0.1 * a0.2.1))
     (cond (((List.length a0.2.2.1 : Nat) : Int) != v0)
     (k (((3 : Int), ()), ()))
     ((f16_l6 a0.2.2.1 ((List.length a0.2.2.1 : Nat) : Int) (0 : Int)).bind fun y2 =>
      ((Sum.elim (fun z3 =>
      (k (((3 : Int), ()), ())))
      (fun z4 =>
      (k (((0 : Int), ()), ())))) y2))))))))
noncomputable def f16 (a0 : (Int × (Int × (List (List Int) × Unit)))) : Option ((Int × Unit) × (Unit)) := f16_k a0 some
noncomputable def f16_sm : Sm := ⟨[.ro (.pair (.int .i64) (.pair (.int .i64) (.pair (.slc (.slc (.int .u8))) .unit)))], [((.int .i64), .ro)], fun x => f16 x.1⟩
theorem f16_m (x : ArgT [.ro (.pair (.int .i64) (.pair (.int .i64) (.pair (.slc (.slc (.int .u8))) .unit)))]) : codeS f16_fx f16_code (start [.ro (.pair (.int .i64) (.pair (.int .i64) (.pair (.slc (.slc (.int .u8))) .unit)))] [] x 43) (finK env [.tmp 2] [.ro (.pair (.int .i64) (.pair (.int .i64) (.pair (.slc (.slc (.int .u8))) .unit)))] [((.int .i64), .ro)]) = f16_k x.1 (fun r => some (r, [])) := by kernel_rfl
theorem f16_n {R : Type} (a0 : (Int × (Int × (List (List Int) × Unit)))) (k : (Int × Unit) × (Unit) → Option R) : f16_k a0 k = (f16 a0).bind k := by
  simp only [f16, f16_k, cond_bind, ite_bind, bind_bind, some_bind, none_bind, elim_bind]
theorem f16_ok : SmOk Try.prog 16 f16_sm :=
  sum_of (c := f16_fx) (fn := Try.f16) (code := f16_code) (sm := f16_sm) mixed (env_ok env_envB) (TabsOk.all trivial) Try.func16 (by kernel_rfl)
   ((LoopsOk.of (l := [f16_l6_b]) (by kernel_rfl) ⟨node_is (by kernel_rfl) f16_l6_ok, trivial⟩))
   (no_tails (by kernel_rfl))
   (fun ks x hl => by
    have hk : ks = [] := List.length_eq_zero_iff.1 hl
    subst hk
    exact (f16_m x).trans (f16_n _ _))
theorem f16_c : CalOk Try.prog 16 f16_sm := .inl ⟨f16_ok, ⟨Try.f16, Try.func16, by kernel_rfl, by kernel_rfl⟩⟩
/-! bakelite/chain.table -/
noncomputable def f117_code : Code := (Try.f117.body).getD .skip
noncomputable def f117_fx : Fx := { E := env, T := [], H := [], O := [], nodes := [] }
noncomputable def f117_k {R : Type} (a0 : (Int × (Int × (List (List Int) × Unit)))) (a1 : Int) (k : (Int × Unit) × (Unit) → Option R) : Option R :=
 (let v0 : Int := (IntKind.i64.wrap (Int.tdiv a1 (128 : Int)))
 (if (0 : Int) ≤ v0 ∧ v0 < ((List.length a0.2.2.1 : Nat) : Int) then (let v1 : Int := (Int.tmod a1 (128 : Int))
 (if (0 : Int) ≤ v1 ∧ v1 < ((List.length (List.getD a0.2.2.1 (Int.toNat v0) ([] : List Int)) : Nat) : Int) then (let v2 : Int := (IntKind.i64.wrap (List.getD (List.getD a0.2.2.1 (Int.toNat v0) ([] : List Int)) (Int.toNat v1) (0 : Int)))
 (k ((v2, ()), ()))) else none)) else none))
noncomputable def f117 (a0 : (Int × (Int × (List (List Int) × Unit)))) (a1 : Int) : Option ((Int × Unit) × (Unit)) := f117_k a0 a1 some
noncomputable def f117_sm : Sm := ⟨[.ro (.pair (.int .i64) (.pair (.int .i64) (.pair (.slc (.slc (.int .u8))) .unit))), .ro (.int .i64)], [((.int .i64), .ro)], fun x => f117 x.1 x.2.1⟩
theorem f117_m (x : ArgT [.ro (.pair (.int .i64) (.pair (.int .i64) (.pair (.slc (.slc (.int .u8))) .unit))), .ro (.int .i64)]) : codeS f117_fx f117_code (start [.ro (.pair (.int .i64) (.pair (.int .i64) (.pair (.slc (.slc (.int .u8))) .unit))), .ro (.int .i64)] [] x 16) (finK env [.tmp 4] [.ro (.pair (.int .i64) (.pair (.int .i64) (.pair (.slc (.slc (.int .u8))) .unit))), .ro (.int .i64)] [((.int .i64), .ro)]) = f117_k x.1 x.2.1 (fun r => some (r, [])) := by kernel_rfl
theorem f117_n {R : Type} (a0 : (Int × (Int × (List (List Int) × Unit)))) (a1 : Int) (k : (Int × Unit) × (Unit) → Option R) : f117_k a0 a1 k = (f117 a0 a1).bind k := by
  simp only [f117, f117_k, cond_bind, ite_bind, bind_bind, some_bind, none_bind, elim_bind]
theorem f117_ok : SmOk Try.prog 117 f117_sm :=
  sum_of (c := f117_fx) (fn := Try.f117) (code := f117_code) (sm := f117_sm) mixed (env_ok env_envB) (TabsOk.all trivial) Try.func117 (by kernel_rfl)
   ((LoopsOk.of (l := []) (by kernel_rfl) trivial))
   (no_tails (by kernel_rfl))
   (fun ks x hl => by
    have hk : ks = [] := List.length_eq_zero_iff.1 hl
    subst hk
    exact (f117_m x).trans (f117_n _ _ _))
theorem f117_c : CalOk Try.prog 117 f117_sm := .inl ⟨f117_ok, ⟨Try.f117, Try.func117, by kernel_rfl, by kernel_rfl⟩⟩
/-! bakelite/chain.slot -/
noncomputable def f119_code : Code := (Try.f119.body).getD .skip
noncomputable def f119_fx : Fx := { E := env, T := [], H := [], O := [], nodes := [] }
noncomputable def f119_k {R : Type} (a0 : (Int × (Int × (List (List Int) × Unit)))) (a1 : Int) (k : (List Int × Unit) × (Unit) → Option R) : Option R :=
 (let v0 : Int := (IntKind.i64.wrap (Int.tdiv a1 (4 : Int)))
 (let v1 : Int := (IntKind.i64.wrap ((2 : Int) + v0))
 (if (0 : Int) ≤ v1 ∧ v1 < ((List.length a0.2.2.1 : Nat) : Int) then (let v2 : Int := (IntKind.i64.wrap ((Int.tmod a1 (4 : Int)) * (32 : Int)))
 (let v3 : Int := (IntKind.i64.wrap ((Int.tmod a1 (4 : Int)) * (32 : Int)))
 (let v4 : Int := (IntKind.i64.wrap (v3 + (32 : Int)))
 (if (0 : Int) ≤ v2 ∧ v2 ≤ v4 ∧ v4 ≤ ((List.length (List.getD a0.2.2.1 (Int.toNat v1) ([] : List Int)) : Nat) : Int) then (k (((List.take ((Int.toNat v4) - (Int.toNat v2)) (List.drop (Int.toNat v2) (List.getD a0.2.2.1 (Int.toNat v1) ([] : List Int)))), ()), ())) else none)))) else none)))
noncomputable def f119 (a0 : (Int × (Int × (List (List Int) × Unit)))) (a1 : Int) : Option ((List Int × Unit) × (Unit)) := f119_k a0 a1 some
noncomputable def f119_sm : Sm := ⟨[.ro (.pair (.int .i64) (.pair (.int .i64) (.pair (.slc (.slc (.int .u8))) .unit))), .ro (.int .i64)], [((.slc (.int .u8)), .ro)], fun x => f119 x.1 x.2.1⟩
theorem f119_m (x : ArgT [.ro (.pair (.int .i64) (.pair (.int .i64) (.pair (.slc (.slc (.int .u8))) .unit))), .ro (.int .i64)]) : codeS f119_fx f119_code (start [.ro (.pair (.int .i64) (.pair (.int .i64) (.pair (.slc (.slc (.int .u8))) .unit))), .ro (.int .i64)] [] x 22) (finK env [.tmp 4] [.ro (.pair (.int .i64) (.pair (.int .i64) (.pair (.slc (.slc (.int .u8))) .unit))), .ro (.int .i64)] [((.slc (.int .u8)), .ro)]) = f119_k x.1 x.2.1 (fun r => some (r, [])) := by kernel_rfl
theorem f119_n {R : Type} (a0 : (Int × (Int × (List (List Int) × Unit)))) (a1 : Int) (k : (List Int × Unit) × (Unit) → Option R) : f119_k a0 a1 k = (f119 a0 a1).bind k := by
  simp only [f119, f119_k, cond_bind, ite_bind, bind_bind, some_bind, none_bind, elim_bind]
theorem f119_ok : SmOk Try.prog 119 f119_sm :=
  sum_of (c := f119_fx) (fn := Try.f119) (code := f119_code) (sm := f119_sm) mixed (env_ok env_envB) (TabsOk.all trivial) Try.func119 (by kernel_rfl)
   ((LoopsOk.of (l := []) (by kernel_rfl) trivial))
   (no_tails (by kernel_rfl))
   (fun ks x hl => by
    have hk : ks = [] := List.length_eq_zero_iff.1 hl
    subst hk
    exact (f119_m x).trans (f119_n _ _ _))
theorem f119_c : CalOk Try.prog 119 f119_sm := .inl ⟨f119_ok, ⟨Try.f119, Try.func119, by kernel_rfl, by kernel_rfl⟩⟩
/-! bakelite/chain.form$1 -/
noncomputable def f147_code : Code := (Try.f147.body).getD .skip
noncomputable def f147_fx : Fx := { E := env, T := [], H := [], O := [], nodes := [] }
noncomputable def f147_k {R : Type} (a0 : Int) (k : (Bool × Unit) × (Unit) → Option R) : Option R :=
 (k (((a0 != (0 : Int)), ()), ()))
noncomputable def f147 (a0 : Int) : Option ((Bool × Unit) × (Unit)) := f147_k a0 some
noncomputable def f147_sm : Sm := ⟨[.ro (.int .u8)], [(.bool, .ro)], fun x => f147 x.1⟩
theorem f147_m (x : ArgT [.ro (.int .u8)]) : codeS f147_fx f147_code (start [.ro (.int .u8)] [] x 5) (finK env [.tmp 2] [.ro (.int .u8)] [(.bool, .ro)]) = f147_k x.1 (fun r => some (r, [])) := by kernel_rfl
theorem f147_n {R : Type} (a0 : Int) (k : (Bool × Unit) × (Unit) → Option R) : f147_k a0 k = (f147 a0).bind k := by
  simp only [f147, f147_k, cond_bind, ite_bind, bind_bind, some_bind, none_bind, elim_bind]
theorem f147_ok : SmOk Try.prog 147 f147_sm :=
  sum_of (c := f147_fx) (fn := Try.f147) (code := f147_code) (sm := f147_sm) mixed (env_ok env_envB) (TabsOk.all trivial) Try.func147 (by kernel_rfl)
   ((LoopsOk.of (l := []) (by kernel_rfl) trivial))
   (no_tails (by kernel_rfl))
   (fun ks x hl => by
    have hk : ks = [] := List.length_eq_zero_iff.1 hl
    subst hk
    exact (f147_m x).trans (f147_n _ _))
theorem f147_c : CalOk Try.prog 147 f147_sm := .inl ⟨f147_ok, ⟨Try.f147, Try.func147, by kernel_rfl, by kernel_rfl⟩⟩
/-! slices.IndexFunc[[]byte,byte] -/
noncomputable def f159_code : Code := (Try.f159.body).getD .skip
noncomputable def f159_l2_sk : SkS := ⟨10, [(0, .con (.slc (.int .u8))), (0, .fn 147 (.tnil)), (5, .con (.int .i64)), (0, .con (.int .i64))], []⟩
noncomputable def f159_l2_o0 : SkS := ⟨14, [(4, .con (.int .i64))], []⟩
noncomputable def f159_l2_o1 : SkS := ⟨19, [], []⟩
noncomputable def f159_l2_outs : List Way := [⟨.ret, [], f159_l2_o0⟩, ⟨(.exit 0), [], f159_l2_o1⟩]
abbrev f159_l2_C := (List Int × Int)
abbrev f159_l2_X := Int
abbrev f159_l2_Y := (Int) ⊕ (Unit)
noncomputable def f159_l2_con (t : f159_l2_sk.T) : f159_l2_C := (t.1.1, t.1.2.2.1)
noncomputable def f159_l2_get (t : f159_l2_sk.T) : f159_l2_X := t.1.2.2.2.1
noncomputable def f159_l2_put (c : f159_l2_C) (x : f159_l2_X) : f159_l2_sk.T := ((c.1, ((), (c.2, (x, ())))), ())
theorem f159_l2_pg (t : f159_l2_sk.T) : f159_l2_put (f159_l2_con t) (f159_l2_get t) = t := by kernel_rfl
noncomputable def f159_l2_w0 (c : f159_l2_C) (y : Int) : f159_l2_o0.T := ((y, ()), ())
noncomputable def f159_l2_w1 (c : f159_l2_C) (y : Unit) : f159_l2_o1.T := ((), ())
noncomputable def f159_l2_out (c : f159_l2_C) (y : f159_l2_Y) : OutV f159_l2_outs := (Sum.elim (fun y => (.inl (f159_l2_w0 c y))) (fun y => (.inr (.inl (f159_l2_w1 c y))))) y
noncomputable def f159_l2_k {R : Type} (a0 : List Int) (a1 : Int) (a2 : Int) (kin : f159_l2_X → Option R) (k0 : Int → Option R) (k1 : Unit → Option R) : Option R :=
 (cond (decide (a2 < a1))
 (if (0 : Int) ≤ a2 ∧ a2 < ((List.length a0 : Nat) : Int) then ((f147 (List.getD a0 (Int.toNat a2) (0 : Int))).bind fun r0 =>
  (cond r0.1.1
  (k0 a2)
  (let v1 : Int := (IntKind.i64.wrap (a2 + (1 : Int)))
   (kin v1)))) else none)
 (k1 ()))
noncomputable def f159_l2_g (a0 : List Int) (a1 : Int) (x : f159_l2_X) : Option (f159_l2_X ⊕ f159_l2_Y) := f159_l2_k a0 a1 x (fun x => some (.inl x)) (fun y => some (.inr (.inl y))) (fun y => some (.inr (.inr y)))
noncomputable def f159_l2 (a0 : List Int) (a1 : Int) (x : f159_l2_X) : Option f159_l2_Y := loopO (f159_l2_g a0 a1) x
noncomputable def f159_l2_nd : Node := { nils := [], sk := f159_l2_sk, outs := f159_l2_outs, Y := f159_l2_Y, L := fun t => f159_l2 ((f159_l2_con t).1) ((f159_l2_con t).2) (f159_l2_get t), out := fun t y => f159_l2_out (f159_l2_con t) y, disp := fun t y K => (Sum.elim (fun y => K .ret (f159_l2_o0.fill (f159_l2_w0 (f159_l2_con t) y))) (fun y => K (.exit 0) (f159_l2_o1.fill (f159_l2_w1 (f159_l2_con t) y)))) y }
noncomputable def f159_fx : Fx := { E := env, T := [(147, f147_sm)], H := [], O := [], nodes := [((true, 2), f159_l2_nd)] }
noncomputable def f159_l2_b : Code := (loops f159_code).getD 0 .skip
theorem f159_l2_r (c : f159_l2_C) (x : f159_l2_X) : roundS f159_fx f159_l2_b f159_l2_nd (f159_l2_put c x) = f159_l2_k c.1 c.2 x (fun x => some (.inl (f159_l2_put c x))) (fun y => some (.inr (.inl (f159_l2_w0 c y)))) (fun y => some (.inr (.inr (.inl (f159_l2_w1 c y))))) := by kernel_rfl
theorem f159_l2_n {R : Type} (a0 : List Int) (a1 : Int) (a2 : Int) (kin : f159_l2_X → Option R) (k0 : Int → Option R) (k1 : Unit → Option R) : f159_l2_k a0 a1 a2 kin k0 k1 = (f159_l2_g a0 a1 a2).bind (Sum.elim kin (Sum.elim k0 k1)) := by
  simp only [f159_l2_g, f159_l2_k, cond_bind, ite_bind, bind_bind, some_bind, none_bind, elim_bind, Sum.elim_inl, Sum.elim_inr]
theorem f159_l2_ok : LoopOk f159_fx f159_l2_b f159_l2_nd := loop_ok f159_l2_con f159_l2_get f159_l2_put f159_l2_pg (fun c => f159_l2_g c.1 c.2) f159_l2_out (fun t y => rfl) (by intro R t y K; rcases y with y | y <;> rfl) (fun c x => by
  refine (f159_l2_r c x).trans ((f159_l2_n _ _ _ _ _ _).trans ?_)
  first
  | rfl
  | congr 1
    funext s
    rcases s with s | s | s <;> rfl) (fun t => rfl)
noncomputable def f159_k {R : Type} (a0 : List Int) (a1 : (Unit)) (k : (Int × Unit) × (Unit) → Option R) : Option R :=
 ((f159_l2 a0 ((List.length a0 : Nat) : Int) (0 : Int)).bind fun y2 =>
 ((Sum.elim (fun z3 =>
 (k ((z3, ()), ())))
 (fun z4 =>
 (k (((-1 : Int), ()), ())))) y2))
noncomputable def f159 (a0 : List Int) (a1 : (Unit)) : Option ((Int × Unit) × (Unit)) := f159_k a0 a1 some
noncomputable def f159_sm : Sm := ⟨[.ro (.slc (.int .u8)), .fn 147 []], [((.int .i64), .ro)], fun x => f159 x.1 x.2.1⟩
theorem f159_m (x : ArgT [.ro (.slc (.int .u8)), .fn 147 []]) : codeS f159_fx f159_code (start [.ro (.slc (.int .u8)), .fn 147 []] [] x 19) (finK env [.tmp 4] [.ro (.slc (.int .u8)), .fn 147 []] [((.int .i64), .ro)]) = f159_k x.1 x.2.1 (fun r => some (r, [])) := by kernel_rfl
theorem f159_n {R : Type} (a0 : List Int) (a1 : (Unit)) (k : (Int × Unit) × (Unit) → Option R) : f159_k a0 a1 k = (f159 a0 a1).bind k := by
  simp only [f159, f159_k, cond_bind, ite_bind, bind_bind, some_bind, none_bind, elim_bind]
theorem f159_ok : SmOk Try.prog 159 f159_sm :=
  sum_of (c := f159_fx) (fn := Try.f159) (code := f159_code) (sm := f159_sm) mixed (env_ok env_envB) (TabsOk.all ⟨f147_c, trivial⟩) Try.func159 (by kernel_rfl)
   ((LoopsOk.of (l := [f159_l2_b]) (by kernel_rfl) ⟨node_is (by kernel_rfl) f159_l2_ok, trivial⟩))
   (no_tails (by kernel_rfl))
   (fun ks x hl => by
    have hk : ks = [] := List.length_eq_zero_iff.1 hl
    subst hk
    exact (f159_m x).trans (f159_n _ _ _))
theorem f159_c : CalOk Try.prog 159 f159_sm := .inl ⟨f159_ok, ⟨Try.f159, Try.func159, by kernel_rfl, by kernel_rfl⟩⟩
/-! slices.ContainsFunc[[]byte,byte] -/
noncomputable def f146_code : Code := (Try.f146.body).getD .skip
noncomputable def f146_fx : Fx := { E := env, T := [(159, f159_sm)], H := [], O := [], nodes := [] }
noncomputable def f146_k {R : Type} (a0 : List Int) (a1 : (Unit)) (k : (Bool × Unit) × (Unit) → Option R) : Option R :=
 ((f159 a0 ()).bind fun r0 =>
 (k (((decide (r0.1.1 ≥ (0 : Int))), ()), ())))
noncomputable def f146 (a0 : List Int) (a1 : (Unit)) : Option ((Bool × Unit) × (Unit)) := f146_k a0 a1 some
noncomputable def f146_sm : Sm := ⟨[.ro (.slc (.int .u8)), .fn 147 []], [(.bool, .ro)], fun x => f146 x.1 x.2.1⟩
theorem f146_m (x : ArgT [.ro (.slc (.int .u8)), .fn 147 []]) : codeS f146_fx f146_code (start [.ro (.slc (.int .u8)), .fn 147 []] [] x 9) (finK env [.tmp 4] [.ro (.slc (.int .u8)), .fn 147 []] [(.bool, .ro)]) = f146_k x.1 x.2.1 (fun r => some (r, [])) := by kernel_rfl
theorem f146_n {R : Type} (a0 : List Int) (a1 : (Unit)) (k : (Bool × Unit) × (Unit) → Option R) : f146_k a0 a1 k = (f146 a0 a1).bind k := by
  simp only [f146, f146_k, cond_bind, ite_bind, bind_bind, some_bind, none_bind, elim_bind]
theorem f146_ok : SmOk Try.prog 146 f146_sm :=
  sum_of (c := f146_fx) (fn := Try.f146) (code := f146_code) (sm := f146_sm) mixed (env_ok env_envB) (TabsOk.all ⟨f159_c, trivial⟩) Try.func146 (by kernel_rfl)
   ((LoopsOk.of (l := []) (by kernel_rfl) trivial))
   (no_tails (by kernel_rfl))
   (fun ks x hl => by
    have hk : ks = [] := List.length_eq_zero_iff.1 hl
    subst hk
    exact (f146_m x).trans (f146_n _ _ _))
theorem f146_c : CalOk Try.prog 146 f146_sm := .inl ⟨f146_ok, ⟨Try.f146, Try.func146, by kernel_rfl, by kernel_rfl⟩⟩
/-! bakelite/chain.name -/
noncomputable def f125_code : Code := (Try.f125.body).getD .skip
noncomputable def f125_l2_sk : SkS := ⟨15, [(0, .con (.slc (.int .u8))), (2, .con (.int .i64))], []⟩
noncomputable def f125_l2_o0 : SkS := ⟨15, [(0, .con (.slc (.int .u8))), (2, .con (.int .i64))], []⟩
noncomputable def f125_l2_outs : List Way := [⟨(.exit 0), [], f125_l2_o0⟩]
abbrev f125_l2_C := List Int
abbrev f125_l2_X := Int
abbrev f125_l2_Y := (Int)
noncomputable def f125_l2_con (t : f125_l2_sk.T) : f125_l2_C := t.1.1
noncomputable def f125_l2_get (t : f125_l2_sk.T) : f125_l2_X := t.1.2.1
noncomputable def f125_l2_put (c : f125_l2_C) (x : f125_l2_X) : f125_l2_sk.T := ((c, (x, ())), ())
theorem f125_l2_pg (t : f125_l2_sk.T) : f125_l2_put (f125_l2_con t) (f125_l2_get t) = t := by kernel_rfl
noncomputable def f125_l2_w0 (c : f125_l2_C) (y : Int) : f125_l2_o0.T := ((c, (y, ())), ())
noncomputable def f125_l2_out (c : f125_l2_C) (y : f125_l2_Y) : OutV f125_l2_outs := (fun y => (.inl (f125_l2_w0 c y))) y
noncomputable def f125_l2_k {R : Type} (a0 : List Int) (a1 : Int) (kin : f125_l2_X → Option R) (k0 : Int → Option R) : Option R :=
 (cond (decide (a1 < (20 : Int)))
 (if (0 : Int) ≤ a1 ∧ a1 < ((List.length a0 : Nat) : Int) then (cond ((List.getD a0 (Int.toNat a1) (0 : Int)) != (0 : Int))
  (let v0 : Int := (IntKind.i64.wrap (a1 + (1 : Int)))
   (kin v0))
  (k0 a1)) else none)
 (k0 a1))
noncomputable def f125_l2_g (a0 : List Int) (x : f125_l2_X) : Option (f125_l2_X ⊕ f125_l2_Y) := f125_l2_k a0 x (fun x => some (.inl x)) (fun y => some (.inr y))
noncomputable def f125_l2 (a0 : List Int) (x : f125_l2_X) : Option f125_l2_Y := loopO (f125_l2_g a0) x
noncomputable def f125_l2_nd : Node := { nils := [], sk := f125_l2_sk, outs := f125_l2_outs, Y := f125_l2_Y, L := fun t => f125_l2 ((f125_l2_con t)) (f125_l2_get t), out := fun t y => f125_l2_out (f125_l2_con t) y, disp := fun t y K => (fun y => K (.exit 0) (f125_l2_o0.fill (f125_l2_w0 (f125_l2_con t) y))) y }
noncomputable def f125_fx : Fx := { E := env, T := [], H := [], O := [], nodes := [((true, 2), f125_l2_nd)] }
noncomputable def f125_l2_b : Code := (loops f125_code).getD 0 .skip
theorem f125_l2_r (c : f125_l2_C) (x : f125_l2_X) : roundS f125_fx f125_l2_b f125_l2_nd (f125_l2_put c x) = f125_l2_k c x (fun x => some (.inl (f125_l2_put c x))) (fun y => some (.inr (.inl (f125_l2_w0 c y)))) := by kernel_rfl
theorem f125_l2_n {R : Type} (a0 : List Int) (a1 : Int) (kin : f125_l2_X → Option R) (k0 : Int → Option R) : f125_l2_k a0 a1 kin k0 = (f125_l2_g a0 a1).bind (Sum.elim kin k0) := by
  simp only [f125_l2_g, f125_l2_k, cond_bind, ite_bind, bind_bind, some_bind, none_bind, elim_bind, Sum.elim_inl, Sum.elim_inr]
theorem f125_l2_ok : LoopOk f125_fx f125_l2_b f125_l2_nd := loop_ok f125_l2_con f125_l2_get f125_l2_put f125_l2_pg (fun c => f125_l2_g c) f125_l2_out (fun t y => rfl) (fun t y K => rfl) (fun c x => by
  refine (f125_l2_r c x).trans ((f125_l2_n _ _ _ _).trans ?_)
  first
  | rfl
  | congr 1
    funext s
    rcases s with s | s <;> rfl) (fun t => rfl)
noncomputable def f125_k {R : Type} (a0 : List Int) (k : (ByteArray × Unit) × (Unit) → Option R) : Option R :=
 ((f125_l2 a0 (0 : Int)).bind fun y1 =>
 (if (0 : Int) ≤ (0 : Int) ∧ (0 : Int) ≤ y1 ∧ y1 ≤ ((List.length a0 : Nat) : Int) then (k (((b2s (List.take ((Int.toNat y1) - 0) (List.drop 0 a0))), ()), ())) else none))
noncomputable def f125 (a0 : List Int) : Option ((ByteArray × Unit) × (Unit)) := f125_k a0 some
noncomputable def f125_sm : Sm := ⟨[.ro (.slc (.int .u8))], [(.str, .ro)], fun x => f125 x.1⟩
theorem f125_m (x : ArgT [.ro (.slc (.int .u8))]) : codeS f125_fx f125_code (start [.ro (.slc (.int .u8))] [] x 19) (finK env [.tmp 2] [.ro (.slc (.int .u8))] [(.str, .ro)]) = f125_k x.1 (fun r => some (r, [])) := by kernel_rfl
theorem f125_n {R : Type} (a0 : List Int) (k : (ByteArray × Unit) × (Unit) → Option R) : f125_k a0 k = (f125 a0).bind k := by
  simp only [f125, f125_k, cond_bind, ite_bind, bind_bind, some_bind, none_bind, elim_bind]
theorem f125_ok : SmOk Try.prog 125 f125_sm :=
  sum_of (c := f125_fx) (fn := Try.f125) (code := f125_code) (sm := f125_sm) mixed (env_ok env_envB) (TabsOk.all trivial) Try.func125 (by kernel_rfl)
   ((LoopsOk.of (l := [f125_l2_b]) (by kernel_rfl) ⟨node_is (by kernel_rfl) f125_l2_ok, trivial⟩))
   (no_tails (by kernel_rfl))
   (fun ks x hl => by
    have hk : ks = [] := List.length_eq_zero_iff.1 hl
    subst hk
    exact (f125_m x).trans (f125_n _ _))
theorem f125_c : CalOk Try.prog 125 f125_sm := .inl ⟨f125_ok, ⟨Try.f125, Try.func125, by kernel_rfl, by kernel_rfl⟩⟩
/-! bakelite/chain.Name -/
noncomputable def f39_code : Code := (Try.f39.body).getD .skip
noncomputable def f39_l4_sk : SkS := ⟨25, [(0, .con .str), (22, .con (.int .i64)), (0, .con (.int .i64))], []⟩
noncomputable def f39_l4_o0 : SkS := ⟨47, [(2, .con .bool)], []⟩
noncomputable def f39_l4_o1 : SkS := ⟨50, [], []⟩
noncomputable def f39_l4_outs : List Way := [⟨.ret, [], f39_l4_o0⟩, ⟨(.exit 0), [], f39_l4_o1⟩]
abbrev f39_l4_C := (ByteArray × Int)
abbrev f39_l4_X := Int
abbrev f39_l4_Y := (Unit) ⊕ (Unit)
noncomputable def f39_l4_con (t : f39_l4_sk.T) : f39_l4_C := (t.1.1, t.1.2.1)
noncomputable def f39_l4_get (t : f39_l4_sk.T) : f39_l4_X := t.1.2.2.1
noncomputable def f39_l4_put (c : f39_l4_C) (x : f39_l4_X) : f39_l4_sk.T := ((c.1, (c.2, (x, ()))), ())
theorem f39_l4_pg (t : f39_l4_sk.T) : f39_l4_put (f39_l4_con t) (f39_l4_get t) = t := by kernel_rfl
noncomputable def f39_l4_w0 (c : f39_l4_C) (y : Unit) : f39_l4_o0.T := ((false, ()), ())
noncomputable def f39_l4_w1 (c : f39_l4_C) (y : Unit) : f39_l4_o1.T := ((), ())
noncomputable def f39_l4_out (c : f39_l4_C) (y : f39_l4_Y) : OutV f39_l4_outs := (Sum.elim (fun y => (.inl (f39_l4_w0 c y))) (fun y => (.inr (.inl (f39_l4_w1 c y))))) y
noncomputable def f39_l4_k {R : Type} (a0 : ByteArray) (a1 : Int) (a2 : Int) (kin : f39_l4_X → Option R) (k0 : Unit → Option R) (k1 : Unit → Option R) : Option R :=
 (cond (decide (a2 < a1))
 (if (0 : Int) ≤ a2 ∧ a2 < ((ByteArray.size a0 : Nat) : Int) then (cond (decide ((bt a0 a2) ≥ (97 : Int)))
  (cond (decide ((bt a0 a2) ≤ (122 : Int)))
   (let v0 : Int := (IntKind.i64.wrap (a2 + (1 : Int)))
    (kin v0))
   (cond (decide ((bt a0 a2) ≥ (48 : Int)))
    (cond (decide ((bt a0 a2) ≤ (57 : Int)))
     (let v1 : Int := (IntKind.i64.wrap (a2 + (1 : Int)))
      (kin v1))
     (cond (!((bt a0 a2) == (45 : Int)))
      (k0 ())
      (let v2 : Int := (IntKind.i64.wrap (a2 + (1 : Int)))
       (kin v2))))
    (cond (!((bt a0 a2) == (45 : Int)))
     (k0 ())
     (let v3 : Int := (IntKind.i64.wrap (a2 + (1 : Int)))
      (kin v3)))))
  (cond (decide ((bt a0 a2) ≥ (48 : Int)))
   (cond (decide ((bt a0 a2) ≤ (57 : Int)))
    (let v4 : Int := (IntKind.i64.wrap (a2 + (1 : Int)))
     (kin v4))
    (cond (!((bt a0 a2) == (45 : Int)))
     (k0 ())
     (let v5 : Int := (IntKind.i64.wrap (a2 + (1 : Int)))
      (kin v5))))
   (cond (!((bt a0 a2) == (45 : Int)))
    (k0 ())
    (let v6 : Int := (IntKind.i64.wrap (a2 + (1 : Int)))
     (kin v6))))) else none)
 (k1 ()))
noncomputable def f39_l4_g (a0 : ByteArray) (a1 : Int) (x : f39_l4_X) : Option (f39_l4_X ⊕ f39_l4_Y) := f39_l4_k a0 a1 x (fun x => some (.inl x)) (fun y => some (.inr (.inl y))) (fun y => some (.inr (.inr y)))
noncomputable def f39_l4 (a0 : ByteArray) (a1 : Int) (x : f39_l4_X) : Option f39_l4_Y := loopO (f39_l4_g a0 a1) x
noncomputable def f39_l4_nd : Node := { nils := [], sk := f39_l4_sk, outs := f39_l4_outs, Y := f39_l4_Y, L := fun t => f39_l4 ((f39_l4_con t).1) ((f39_l4_con t).2) (f39_l4_get t), out := fun t y => f39_l4_out (f39_l4_con t) y, disp := fun t y K => (Sum.elim (fun y => K .ret (f39_l4_o0.fill (f39_l4_w0 (f39_l4_con t) y))) (fun y => K (.exit 0) (f39_l4_o1.fill (f39_l4_w1 (f39_l4_con t) y)))) y }
noncomputable def f39_fx : Fx := { E := env, T := [], H := [], O := [], nodes := [((true, 4), f39_l4_nd)] }
noncomputable def f39_l4_b : Code := (loops f39_code).getD 0 .skip
theorem f39_l4_r (c : f39_l4_C) (x : f39_l4_X) : roundS f39_fx f39_l4_b f39_l4_nd (f39_l4_put c x) = f39_l4_k c.1 c.2 x (fun x => some (.inl (f39_l4_put c x))) (fun y => some (.inr (.inl (f39_l4_w0 c y)))) (fun y => some (.inr (.inr (.inl (f39_l4_w1 c y))))) := by kernel_rfl
theorem f39_l4_n {R : Type} (a0 : ByteArray) (a1 : Int) (a2 : Int) (kin : f39_l4_X → Option R) (k0 : Unit → Option R) (k1 : Unit → Option R) : f39_l4_k a0 a1 a2 kin k0 k1 = (f39_l4_g a0 a1 a2).bind (Sum.elim kin (Sum.elim k0 k1)) := by
  simp only [f39_l4_g, f39_l4_k, cond_bind, ite_bind, bind_bind, some_bind, none_bind, elim_bind, Sum.elim_inl, Sum.elim_inr]
theorem f39_l4_ok : LoopOk f39_fx f39_l4_b f39_l4_nd := loop_ok f39_l4_con f39_l4_get f39_l4_put f39_l4_pg (fun c => f39_l4_g c.1 c.2) f39_l4_out (fun t y => rfl) (by intro R t y K; rcases y with y | y <;> rfl) (fun c x => by
  refine (f39_l4_r c x).trans ((f39_l4_n _ _ _ _ _ _).trans ?_)
  first
  | rfl
  | congr 1
    funext s
    rcases s with s | s | s <;> rfl) (fun t => rfl)
noncomputable def f39_k {R : Type} (a0 : ByteArray) (k : (Bool × Unit) × (Unit) → Option R) : Option R :=
 (cond (strEq a0 (⟨#[]⟩ : ByteArray))
 (k ((false, ()), ()))
 (cond (decide (((ByteArray.size a0 : Nat) : Int) > (20 : Int)))
  (k ((false, ()), ()))
  (if (0 : Int) ≤ (0 : Int) ∧ (0 : Int) < ((ByteArray.size a0 : Nat) : Int) then (cond (decide ((bt a0 (0 : Int)) < (97 : Int)))
   (k ((false, ()), ()))
   (if (0 : Int) ≤ (0 : Int) ∧ (0 : Int) < ((ByteArray.size a0 : Nat) : Int) then (cond (decide ((bt a0 (0 : Int)) > (122 : Int)))
    (k ((false, ()), ()))
    ((f39_l4 a0 ((ByteArray.size a0 : Nat) : Int) (0 : Int)).bind fun y7 =>
     ((Sum.elim (fun z8 =>
     (k ((false, ()), ())))
     (fun z9 =>
     (k ((true, ()), ())))) y7))) else none)) else none)))
noncomputable def f39 (a0 : ByteArray) : Option ((Bool × Unit) × (Unit)) := f39_k a0 some
noncomputable def f39_sm : Sm := ⟨[.ro .str], [(.bool, .ro)], fun x => f39 x.1⟩
theorem f39_m (x : ArgT [.ro .str]) : codeS f39_fx f39_code (start [.ro .str] [] x 50) (finK env [.tmp 2] [.ro .str] [(.bool, .ro)]) = f39_k x.1 (fun r => some (r, [])) := by kernel_rfl
theorem f39_n {R : Type} (a0 : ByteArray) (k : (Bool × Unit) × (Unit) → Option R) : f39_k a0 k = (f39 a0).bind k := by
  simp only [f39, f39_k, cond_bind, ite_bind, bind_bind, some_bind, none_bind, elim_bind]
theorem f39_ok : SmOk Try.prog 39 f39_sm :=
  sum_of (c := f39_fx) (fn := Try.f39) (code := f39_code) (sm := f39_sm) mixed (env_ok env_envB) (TabsOk.all trivial) Try.func39 (by kernel_rfl)
   ((LoopsOk.of (l := [f39_l4_b]) (by kernel_rfl) ⟨node_is (by kernel_rfl) f39_l4_ok, trivial⟩))
   (no_tails (by kernel_rfl))
   (fun ks x hl => by
    have hk : ks = [] := List.length_eq_zero_iff.1 hl
    subst hk
    exact (f39_m x).trans (f39_n _ _))
theorem f39_c : CalOk Try.prog 39 f39_sm := .inl ⟨f39_ok, ⟨Try.f39, Try.func39, by kernel_rfl, by kernel_rfl⟩⟩
/-! bakelite/chain.ends$1 -/
noncomputable def f160_code : Code := (Try.f160.body).getD .skip
noncomputable def f160_fx : Fx := { E := env, T := [], H := [], O := [], nodes := [] }
noncomputable def f160_k {R : Type} (a0 : Int) (k : (Bool × Unit) × (Unit) → Option R) : Option R :=
 (k (((a0 != (0 : Int)), ()), ()))
noncomputable def f160 (a0 : Int) : Option ((Bool × Unit) × (Unit)) := f160_k a0 some
noncomputable def f160_sm : Sm := ⟨[.ro (.int .u8)], [(.bool, .ro)], fun x => f160 x.1⟩
theorem f160_m (x : ArgT [.ro (.int .u8)]) : codeS f160_fx f160_code (start [.ro (.int .u8)] [] x 5) (finK env [.tmp 2] [.ro (.int .u8)] [(.bool, .ro)]) = f160_k x.1 (fun r => some (r, [])) := by kernel_rfl
theorem f160_n {R : Type} (a0 : Int) (k : (Bool × Unit) × (Unit) → Option R) : f160_k a0 k = (f160 a0).bind k := by
  simp only [f160, f160_k, cond_bind, ite_bind, bind_bind, some_bind, none_bind, elim_bind]
theorem f160_ok : SmOk Try.prog 160 f160_sm :=
  sum_of (c := f160_fx) (fn := Try.f160) (code := f160_code) (sm := f160_sm) mixed (env_ok env_envB) (TabsOk.all trivial) Try.func160 (by kernel_rfl)
   ((LoopsOk.of (l := []) (by kernel_rfl) trivial))
   (no_tails (by kernel_rfl))
   (fun ks x hl => by
    have hk : ks = [] := List.length_eq_zero_iff.1 hl
    subst hk
    exact (f160_m x).trans (f160_n _ _))
theorem f160_c : CalOk Try.prog 160 f160_sm := .inl ⟨f160_ok, ⟨Try.f160, Try.func160, by kernel_rfl, by kernel_rfl⟩⟩
/-! slices.IndexFunc[[]byte,byte] -/
noncomputable def f159x1_code : Code := (Try.f159.body).getD .skip
noncomputable def f159x1_l2_sk : SkS := ⟨10, [(0, .con (.slc (.int .u8))), (0, .fn 160 (.tnil)), (5, .con (.int .i64)), (0, .con (.int .i64))], []⟩
noncomputable def f159x1_l2_o0 : SkS := ⟨14, [(4, .con (.int .i64))], []⟩
noncomputable def f159x1_l2_o1 : SkS := ⟨19, [], []⟩
noncomputable def f159x1_l2_outs : List Way := [⟨.ret, [], f159x1_l2_o0⟩, ⟨(.exit 0), [], f159x1_l2_o1⟩]
abbrev f159x1_l2_C := (List Int × Int)
abbrev f159x1_l2_X := Int
abbrev f159x1_l2_Y := (Int) ⊕ (Unit)
noncomputable def f159x1_l2_con (t : f159x1_l2_sk.T) : f159x1_l2_C := (t.1.1, t.1.2.2.1)
noncomputable def f159x1_l2_get (t : f159x1_l2_sk.T) : f159x1_l2_X := t.1.2.2.2.1
noncomputable def f159x1_l2_put (c : f159x1_l2_C) (x : f159x1_l2_X) : f159x1_l2_sk.T := ((c.1, ((), (c.2, (x, ())))), ())
theorem f159x1_l2_pg (t : f159x1_l2_sk.T) : f159x1_l2_put (f159x1_l2_con t) (f159x1_l2_get t) = t := by kernel_rfl
noncomputable def f159x1_l2_w0 (c : f159x1_l2_C) (y : Int) : f159x1_l2_o0.T := ((y, ()), ())
noncomputable def f159x1_l2_w1 (c : f159x1_l2_C) (y : Unit) : f159x1_l2_o1.T := ((), ())
noncomputable def f159x1_l2_out (c : f159x1_l2_C) (y : f159x1_l2_Y) : OutV f159x1_l2_outs := (Sum.elim (fun y => (.inl (f159x1_l2_w0 c y))) (fun y => (.inr (.inl (f159x1_l2_w1 c y))))) y
noncomputable def f159x1_l2_k {R : Type} (a0 : List Int) (a1 : Int) (a2 : Int) (kin : f159x1_l2_X → Option R) (k0 : Int → Option R) (k1 : Unit → Option R) : Option R :=
 (cond (decide (a2 < a1))
 (if (0 : Int) ≤ a2 ∧ a2 < ((List.length a0 : Nat) : Int) then ((f160 (List.getD a0 (Int.toNat a2) (0 : Int))).bind fun r0 =>
  (cond r0.1.1
  (k0 a2)
  (let v1 : Int := (IntKind.i64.wrap (a2 + (1 : Int)))
   (kin v1)))) else none)
 (k1 ()))
noncomputable def f159x1_l2_g (a0 : List Int) (a1 : Int) (x : f159x1_l2_X) : Option (f159x1_l2_X ⊕ f159x1_l2_Y) := f159x1_l2_k a0 a1 x (fun x => some (.inl x)) (fun y => some (.inr (.inl y))) (fun y => some (.inr (.inr y)))
noncomputable def f159x1_l2 (a0 : List Int) (a1 : Int) (x : f159x1_l2_X) : Option f159x1_l2_Y := loopO (f159x1_l2_g a0 a1) x
noncomputable def f159x1_l2_nd : Node := { nils := [], sk := f159x1_l2_sk, outs := f159x1_l2_outs, Y := f159x1_l2_Y, L := fun t => f159x1_l2 ((f159x1_l2_con t).1) ((f159x1_l2_con t).2) (f159x1_l2_get t), out := fun t y => f159x1_l2_out (f159x1_l2_con t) y, disp := fun t y K => (Sum.elim (fun y => K .ret (f159x1_l2_o0.fill (f159x1_l2_w0 (f159x1_l2_con t) y))) (fun y => K (.exit 0) (f159x1_l2_o1.fill (f159x1_l2_w1 (f159x1_l2_con t) y)))) y }
noncomputable def f159x1_fx : Fx := { E := env, T := [(160, f160_sm)], H := [], O := [], nodes := [((true, 2), f159x1_l2_nd)] }
noncomputable def f159x1_l2_b : Code := (loops f159x1_code).getD 0 .skip
theorem f159x1_l2_r (c : f159x1_l2_C) (x : f159x1_l2_X) : roundS f159x1_fx f159x1_l2_b f159x1_l2_nd (f159x1_l2_put c x) = f159x1_l2_k c.1 c.2 x (fun x => some (.inl (f159x1_l2_put c x))) (fun y => some (.inr (.inl (f159x1_l2_w0 c y)))) (fun y => some (.inr (.inr (.inl (f159x1_l2_w1 c y))))) := by kernel_rfl
theorem f159x1_l2_n {R : Type} (a0 : List Int) (a1 : Int) (a2 : Int) (kin : f159x1_l2_X → Option R) (k0 : Int → Option R) (k1 : Unit → Option R) : f159x1_l2_k a0 a1 a2 kin k0 k1 = (f159x1_l2_g a0 a1 a2).bind (Sum.elim kin (Sum.elim k0 k1)) := by
  simp only [f159x1_l2_g, f159x1_l2_k, cond_bind, ite_bind, bind_bind, some_bind, none_bind, elim_bind, Sum.elim_inl, Sum.elim_inr]
theorem f159x1_l2_ok : LoopOk f159x1_fx f159x1_l2_b f159x1_l2_nd := loop_ok f159x1_l2_con f159x1_l2_get f159x1_l2_put f159x1_l2_pg (fun c => f159x1_l2_g c.1 c.2) f159x1_l2_out (fun t y => rfl) (by intro R t y K; rcases y with y | y <;> rfl) (fun c x => by
  refine (f159x1_l2_r c x).trans ((f159x1_l2_n _ _ _ _ _ _).trans ?_)
  first
  | rfl
  | congr 1
    funext s
    rcases s with s | s | s <;> rfl) (fun t => rfl)
noncomputable def f159x1_k {R : Type} (a0 : List Int) (a1 : (Unit)) (k : (Int × Unit) × (Unit) → Option R) : Option R :=
 ((f159x1_l2 a0 ((List.length a0 : Nat) : Int) (0 : Int)).bind fun y2 =>
 ((Sum.elim (fun z3 =>
 (k ((z3, ()), ())))
 (fun z4 =>
 (k (((-1 : Int), ()), ())))) y2))
noncomputable def f159x1 (a0 : List Int) (a1 : (Unit)) : Option ((Int × Unit) × (Unit)) := f159x1_k a0 a1 some
noncomputable def f159x1_sm : Sm := ⟨[.ro (.slc (.int .u8)), .fn 160 []], [((.int .i64), .ro)], fun x => f159x1 x.1 x.2.1⟩
theorem f159x1_m (x : ArgT [.ro (.slc (.int .u8)), .fn 160 []]) : codeS f159x1_fx f159x1_code (start [.ro (.slc (.int .u8)), .fn 160 []] [] x 19) (finK env [.tmp 4] [.ro (.slc (.int .u8)), .fn 160 []] [((.int .i64), .ro)]) = f159x1_k x.1 x.2.1 (fun r => some (r, [])) := by kernel_rfl
theorem f159x1_n {R : Type} (a0 : List Int) (a1 : (Unit)) (k : (Int × Unit) × (Unit) → Option R) : f159x1_k a0 a1 k = (f159x1 a0 a1).bind k := by
  simp only [f159x1, f159x1_k, cond_bind, ite_bind, bind_bind, some_bind, none_bind, elim_bind]
theorem f159x1_ok : SmOk Try.prog 159 f159x1_sm :=
  sum_of (c := f159x1_fx) (fn := Try.f159) (code := f159x1_code) (sm := f159x1_sm) mixed (env_ok env_envB) (TabsOk.all ⟨f160_c, trivial⟩) Try.func159 (by kernel_rfl)
   ((LoopsOk.of (l := [f159x1_l2_b]) (by kernel_rfl) ⟨node_is (by kernel_rfl) f159x1_l2_ok, trivial⟩))
   (no_tails (by kernel_rfl))
   (fun ks x hl => by
    have hk : ks = [] := List.length_eq_zero_iff.1 hl
    subst hk
    exact (f159x1_m x).trans (f159x1_n _ _ _))
theorem f159x1_c : CalOk Try.prog 159 f159x1_sm := .inl ⟨f159x1_ok, ⟨Try.f159, Try.func159, by kernel_rfl, by kernel_rfl⟩⟩
/-! slices.ContainsFunc[[]byte,byte] -/
noncomputable def f146x1_code : Code := (Try.f146.body).getD .skip
noncomputable def f146x1_fx : Fx := { E := env, T := [(159, f159x1_sm)], H := [], O := [], nodes := [] }
noncomputable def f146x1_k {R : Type} (a0 : List Int) (a1 : (Unit)) (k : (Bool × Unit) × (Unit) → Option R) : Option R :=
 ((f159x1 a0 ()).bind fun r0 =>
 (k (((decide (r0.1.1 ≥ (0 : Int))), ()), ())))
noncomputable def f146x1 (a0 : List Int) (a1 : (Unit)) : Option ((Bool × Unit) × (Unit)) := f146x1_k a0 a1 some
noncomputable def f146x1_sm : Sm := ⟨[.ro (.slc (.int .u8)), .fn 160 []], [(.bool, .ro)], fun x => f146x1 x.1 x.2.1⟩
theorem f146x1_m (x : ArgT [.ro (.slc (.int .u8)), .fn 160 []]) : codeS f146x1_fx f146x1_code (start [.ro (.slc (.int .u8)), .fn 160 []] [] x 9) (finK env [.tmp 4] [.ro (.slc (.int .u8)), .fn 160 []] [(.bool, .ro)]) = f146x1_k x.1 x.2.1 (fun r => some (r, [])) := by kernel_rfl
theorem f146x1_n {R : Type} (a0 : List Int) (a1 : (Unit)) (k : (Bool × Unit) × (Unit) → Option R) : f146x1_k a0 a1 k = (f146x1 a0 a1).bind k := by
  simp only [f146x1, f146x1_k, cond_bind, ite_bind, bind_bind, some_bind, none_bind, elim_bind]
theorem f146x1_ok : SmOk Try.prog 146 f146x1_sm :=
  sum_of (c := f146x1_fx) (fn := Try.f146) (code := f146x1_code) (sm := f146x1_sm) mixed (env_ok env_envB) (TabsOk.all ⟨f159x1_c, trivial⟩) Try.func146 (by kernel_rfl)
   ((LoopsOk.of (l := []) (by kernel_rfl) trivial))
   (no_tails (by kernel_rfl))
   (fun ks x hl => by
    have hk : ks = [] := List.length_eq_zero_iff.1 hl
    subst hk
    exact (f146x1_m x).trans (f146x1_n _ _ _))
theorem f146x1_c : CalOk Try.prog 146 f146x1_sm := .inl ⟨f146x1_ok, ⟨Try.f146, Try.func146, by kernel_rfl, by kernel_rfl⟩⟩
/-! bakelite/chain.ends -/
noncomputable def f148_code : Code := (Try.f148.body).getD .skip
noncomputable def f148_l2_sk : SkS := ⟨16, [(0, .con (.slc (.int .u8))), (2, .con (.int .i64))], []⟩
noncomputable def f148_l2_o0 : SkS := ⟨17, [(2, .con .bool)], []⟩
noncomputable def f148_l2_o1 : SkS := ⟨19, [(0, .con (.slc (.int .u8)))], []⟩
noncomputable def f148_l2_outs : List Way := [⟨.ret, [], f148_l2_o0⟩, ⟨(.exit 0), [], f148_l2_o1⟩]
abbrev f148_l2_C := List Int
abbrev f148_l2_X := Int
abbrev f148_l2_Y := (Unit) ⊕ (Unit)
noncomputable def f148_l2_con (t : f148_l2_sk.T) : f148_l2_C := t.1.1
noncomputable def f148_l2_get (t : f148_l2_sk.T) : f148_l2_X := t.1.2.1
noncomputable def f148_l2_put (c : f148_l2_C) (x : f148_l2_X) : f148_l2_sk.T := ((c, (x, ())), ())
theorem f148_l2_pg (t : f148_l2_sk.T) : f148_l2_put (f148_l2_con t) (f148_l2_get t) = t := by kernel_rfl
noncomputable def f148_l2_w0 (c : f148_l2_C) (y : Unit) : f148_l2_o0.T := ((false, ()), ())
noncomputable def f148_l2_w1 (c : f148_l2_C) (y : Unit) : f148_l2_o1.T := ((c, ()), ())
noncomputable def f148_l2_out (c : f148_l2_C) (y : f148_l2_Y) : OutV f148_l2_outs := (Sum.elim (fun y => (.inl (f148_l2_w0 c y))) (fun y => (.inr (.inl (f148_l2_w1 c y))))) y
noncomputable def f148_l2_k {R : Type} (a0 : List Int) (a1 : Int) (kin : f148_l2_X → Option R) (k0 : Unit → Option R) (k1 : Unit → Option R) : Option R :=
 (cond (decide (a1 < (20 : Int)))
 (if (0 : Int) ≤ a1 ∧ a1 < ((List.length a0 : Nat) : Int) then (cond ((List.getD a0 (Int.toNat a1) (0 : Int)) != (0 : Int))
  (k0 ())
  (let v1 : Int := (IntKind.i64.wrap (a1 + (1 : Int)))
   (kin v1))) else none)
 (k1 ()))
noncomputable def f148_l2_g (a0 : List Int) (x : f148_l2_X) : Option (f148_l2_X ⊕ f148_l2_Y) := f148_l2_k a0 x (fun x => some (.inl x)) (fun y => some (.inr (.inl y))) (fun y => some (.inr (.inr y)))
noncomputable def f148_l2 (a0 : List Int) (x : f148_l2_X) : Option f148_l2_Y := loopO (f148_l2_g a0) x
noncomputable def f148_l2_nd : Node := { nils := [], sk := f148_l2_sk, outs := f148_l2_outs, Y := f148_l2_Y, L := fun t => f148_l2 ((f148_l2_con t)) (f148_l2_get t), out := fun t y => f148_l2_out (f148_l2_con t) y, disp := fun t y K => (Sum.elim (fun y => K .ret (f148_l2_o0.fill (f148_l2_w0 (f148_l2_con t) y))) (fun y => K (.exit 0) (f148_l2_o1.fill (f148_l2_w1 (f148_l2_con t) y)))) y }
noncomputable def f148_fx : Fx := { E := env, T := [(125, f125_sm), (146, f146x1_sm)], H := [], O := [], nodes := [((true, 2), f148_l2_nd)] }
noncomputable def f148_l2_b : Code := (loops f148_code).getD 0 .skip
theorem f148_l2_r (c : f148_l2_C) (x : f148_l2_X) : roundS f148_fx f148_l2_b f148_l2_nd (f148_l2_put c x) = f148_l2_k c x (fun x => some (.inl (f148_l2_put c x))) (fun y => some (.inr (.inl (f148_l2_w0 c y)))) (fun y => some (.inr (.inr (.inl (f148_l2_w1 c y))))) := by kernel_rfl
theorem f148_l2_n {R : Type} (a0 : List Int) (a1 : Int) (kin : f148_l2_X → Option R) (k0 : Unit → Option R) (k1 : Unit → Option R) : f148_l2_k a0 a1 kin k0 k1 = (f148_l2_g a0 a1).bind (Sum.elim kin (Sum.elim k0 k1)) := by
  simp only [f148_l2_g, f148_l2_k, cond_bind, ite_bind, bind_bind, some_bind, none_bind, elim_bind, Sum.elim_inl, Sum.elim_inr]
theorem f148_l2_ok : LoopOk f148_fx f148_l2_b f148_l2_nd := loop_ok f148_l2_con f148_l2_get f148_l2_put f148_l2_pg (fun c => f148_l2_g c) f148_l2_out (fun t y => rfl) (by intro R t y K; rcases y with y | y <;> rfl) (fun c x => by
  refine (f148_l2_r c x).trans ((f148_l2_n _ _ _ _ _).trans ?_)
  first
  | rfl
  | congr 1
    funext s
    rcases s with s | s | s <;> rfl) (fun t => rfl)
noncomputable def f148_k {R : Type} (a0 : List Int) (k : (Bool × Unit) × (Unit) → Option R) : Option R :=
 ((f125 a0).bind fun r0 =>
 ((f148_l2 a0 ((ByteArray.size r0.1.1 : Nat) : Int)).bind fun y2 =>
 ((Sum.elim (fun z3 =>
 (k ((false, ()), ())))
 (fun z4 =>
 (if (0 : Int) ≤ (23 : Int) ∧ (23 : Int) ≤ ((List.length a0 : Nat) : Int) ∧ ((List.length a0 : Nat) : Int) ≤ ((List.length a0 : Nat) : Int) then ((f146x1 (List.take ((Int.toNat ((List.length a0 : Nat) : Int)) - 23) (List.drop 23 a0)) ()).bind fun r5 =>
  (k (((!r5.1.1), ()), ()))) else none))) y2)))
noncomputable def f148 (a0 : List Int) : Option ((Bool × Unit) × (Unit)) := f148_k a0 some
noncomputable def f148_sm : Sm := ⟨[.ro (.slc (.int .u8))], [(.bool, .ro)], fun x => f148 x.1⟩
theorem f148_m (x : ArgT [.ro (.slc (.int .u8))]) : codeS f148_fx f148_code (start [.ro (.slc (.int .u8))] [] x 20) (finK env [.tmp 2] [.ro (.slc (.int .u8))] [(.bool, .ro)]) = f148_k x.1 (fun r => some (r, [])) := by kernel_rfl
theorem f148_n {R : Type} (a0 : List Int) (k : (Bool × Unit) × (Unit) → Option R) : f148_k a0 k = (f148 a0).bind k := by
  simp only [f148, f148_k, cond_bind, ite_bind, bind_bind, some_bind, none_bind, elim_bind]
theorem f148_ok : SmOk Try.prog 148 f148_sm :=
  sum_of (c := f148_fx) (fn := Try.f148) (code := f148_code) (sm := f148_sm) mixed (env_ok env_envB) (TabsOk.all ⟨f125_c, f146x1_c, trivial⟩) Try.func148 (by kernel_rfl)
   ((LoopsOk.of (l := [f148_l2_b]) (by kernel_rfl) ⟨node_is (by kernel_rfl) f148_l2_ok, trivial⟩))
   (no_tails (by kernel_rfl))
   (fun ks x hl => by
    have hk : ks = [] := List.length_eq_zero_iff.1 hl
    subst hk
    exact (f148_m x).trans (f148_n _ _))
theorem f148_c : CalOk Try.prog 148 f148_sm := .inl ⟨f148_ok, ⟨Try.f148, Try.func148, by kernel_rfl, by kernel_rfl⟩⟩
/-! bakelite/chain.form -/
noncomputable def f118_code : Code := (Try.f118.body).getD .skip
noncomputable def f118_l7_sk : SkS := ⟨65, [(1, .ptr 16 []), (18, .con (.int .i64))], [(16, ⟨some 24, (.pair (.int .i64) (.pair (.int .i64) (.pair (.slc (.slc (.int .u8))) .unit))), .ro, none⟩)]⟩
noncomputable def f118_l7_o0 : SkS := ⟨83, [(2, .con (.int .i64))], []⟩
noncomputable def f118_l7_o1 : SkS := ⟨84, [(1, .ptr 16 [])], [(16, ⟨some 24, (.pair (.int .i64) (.pair (.int .i64) (.pair (.slc (.slc (.int .u8))) .unit))), .ro, none⟩)]⟩
noncomputable def f118_l7_outs : List Way := [⟨.ret, [], f118_l7_o0⟩, ⟨(.exit 0), [], f118_l7_o1⟩]
abbrev f118_l7_C := ((Int × (Int × (List (List Int) × Unit))) × (Option Nat))
abbrev f118_l7_X := Int
abbrev f118_l7_Y := (Unit) ⊕ (Unit)
noncomputable def f118_l7_con (t : f118_l7_sk.T) : f118_l7_C := (t.2.1.1, t.2.1.2)
noncomputable def f118_l7_get (t : f118_l7_sk.T) : f118_l7_X := t.1.1
noncomputable def f118_l7_put (c : f118_l7_C) (x : f118_l7_X) : f118_l7_sk.T := ((x, ()), ((c.1, c.2), ()))
theorem f118_l7_pg (t : f118_l7_sk.T) : f118_l7_put (f118_l7_con t) (f118_l7_get t) = t := by kernel_rfl
noncomputable def f118_l7_w0 (c : f118_l7_C) (y : Unit) : f118_l7_o0.T := (((3 : Int), ()), ())
noncomputable def f118_l7_w1 (c : f118_l7_C) (y : Unit) : f118_l7_o1.T := ((), ((c.1, c.2), ()))
noncomputable def f118_l7_out (c : f118_l7_C) (y : f118_l7_Y) : OutV f118_l7_outs := (Sum.elim (fun y => (.inl (f118_l7_w0 c y))) (fun y => (.inr (.inl (f118_l7_w1 c y))))) y
noncomputable def f118_l7_k {R : Type} (a0 : Int) (a1 : (Int × (Int × (List (List Int) × Unit)))) (kin : f118_l7_X → Option R) (k0 : Unit → Option R) (k1 : Unit → Option R) : Option R :=
 (cond (decide (a0 < (256 : Int)))
 ((f117 a1 a0).bind fun r1 =>
  (cond (decide (a0 < (10 : Int)))
  (cond (!(true == (r1.1.1 == (253 : Int))))
   (k0 ())
   (cond (decide (r1.1.1 < (253 : Int)))
    (cond (decide (r1.1.1 < (10 : Int)))
     (k0 ())
     (cond (decide (r1.1.1 ≥ ((List.length a1.2.2.1 : Nat) : Int)))
      (k0 ())
      (let v2 : Int := (IntKind.i64.wrap (a0 + (1 : Int)))
       (kin v2))))
    (let v3 : Int := (IntKind.i64.wrap (a0 + (1 : Int)))
     (kin v3))))
  (cond (!((decide (a0 ≥ ((List.length a1.2.2.1 : Nat) : Int))) == (r1.1.1 == (253 : Int))))
   (k0 ())
   (cond (decide (r1.1.1 < (253 : Int)))
    (cond (decide (r1.1.1 < (10 : Int)))
     (k0 ())
     (cond (decide (r1.1.1 ≥ ((List.length a1.2.2.1 : Nat) : Int)))
      (k0 ())
      (let v4 : Int := (IntKind.i64.wrap (a0 + (1 : Int)))
       (kin v4))))
    (let v5 : Int := (IntKind.i64.wrap (a0 + (1 : Int)))
     (kin v5))))))
 (k1 ()))
noncomputable def f118_l7_g (a1 : (Int × (Int × (List (List Int) × Unit)))) (x : f118_l7_X) : Option (f118_l7_X ⊕ f118_l7_Y) := f118_l7_k x a1 (fun x => some (.inl x)) (fun y => some (.inr (.inl y))) (fun y => some (.inr (.inr y)))
noncomputable def f118_l7 (a1 : (Int × (Int × (List (List Int) × Unit)))) (x : f118_l7_X) : Option f118_l7_Y := loopO (f118_l7_g a1) x
noncomputable def f118_l7_nd : Node := { nils := [], sk := f118_l7_sk, outs := f118_l7_outs, Y := f118_l7_Y, L := fun t => f118_l7 ((f118_l7_con t).1) (f118_l7_get t), out := fun t y => f118_l7_out (f118_l7_con t) y, disp := fun t y K => (Sum.elim (fun y => K .ret (f118_l7_o0.fill (f118_l7_w0 (f118_l7_con t) y))) (fun y => K (.exit 0) (f118_l7_o1.fill (f118_l7_w1 (f118_l7_con t) y)))) y }
noncomputable def f118_l16_sk : SkS := ⟨29, [(1, .ptr 16 []), (5, .ref 880 []), (48, .con (.int .i64))], [(16, ⟨some 24, (.pair (.int .i64) (.pair (.int .i64) (.pair (.slc (.slc (.int .u8))) .unit))), .ro, none⟩), (880, ⟨none, (.mp .str .bool), (.own (.own .ro)), none⟩)]⟩
noncomputable def f118_l16_o0 : SkS := ⟨83, [(2, .con (.int .i64))], []⟩
noncomputable def f118_l16_o1 : SkS := ⟨86, [], []⟩
noncomputable def f118_l16_outs : List Way := [⟨.ret, [], f118_l16_o0⟩, ⟨(.exit 2), [], f118_l16_o1⟩]
abbrev f118_l16_C := ((Int × (Int × (List (List Int) × Unit))) × (Option Nat))
abbrev f118_l16_X := (Int × List (ByteArray × Bool))
abbrev f118_l16_Y := (Int) ⊕ (Unit)
noncomputable def f118_l16_con (t : f118_l16_sk.T) : f118_l16_C := (t.2.1.1, t.2.1.2)
noncomputable def f118_l16_get (t : f118_l16_sk.T) : f118_l16_X := (t.1.1, t.2.2.1.1)
noncomputable def f118_l16_put (c : f118_l16_C) (x : f118_l16_X) : f118_l16_sk.T := ((x.1, ()), ((c.1, c.2), ((x.2, ()), ())))
theorem f118_l16_pg (t : f118_l16_sk.T) : f118_l16_put (f118_l16_con t) (f118_l16_get t) = t := by kernel_rfl
noncomputable def f118_l16_w0 (c : f118_l16_C) (y : Int) : f118_l16_o0.T := ((y, ()), ())
noncomputable def f118_l16_w1 (c : f118_l16_C) (y : Unit) : f118_l16_o1.T := ((), ())
noncomputable def f118_l16_out (c : f118_l16_C) (y : f118_l16_Y) : OutV f118_l16_outs := (Sum.elim (fun y => (.inl (f118_l16_w0 c y))) (fun y => (.inr (.inl (f118_l16_w1 c y))))) y
noncomputable def f118_l16_k {R : Type} (a0 : Int) (a1 : (Int × (Int × (List (List Int) × Unit)))) (a2 : List (ByteArray × Bool)) (kin : f118_l16_X → Option R) (k0 : Int → Option R) (k1 : Unit → Option R) : Option R :=
 (cond (decide (a0 < (32 : Int)))
 ((f119 a1 a0).bind fun r9 =>
  (if (0 : Int) ≤ (0 : Int) ∧ (0 : Int) < ((List.length r9.1.1 : Nat) : Int) then (cond ((List.getD r9.1.1 0 (0 : Int)) == (0 : Int))
  ((f146 r9.1.1 ()).bind fun r10 =>
   (cond r10.1.1
   (k0 (3 : Int))
   (let v11 : Int := (IntKind.i64.wrap (a0 + (1 : Int)))
    (kin (v11, a2)))))
  ((f125 r9.1.1).bind fun r12 =>
   ((f39 r12.1.1).bind fun r13 =>
   (cond (!r13.1.1)
   (k0 (15 : Int))
   ((f148 r9.1.1).bind fun r14 =>
    (cond (!r14.1.1)
    (k0 (15 : Int))
    (let v15 : Bool := ((mfind .str .bool a2 r12.1.1).getD false)
     (cond v15
     (k0 (5 : Int))
     (let r16 : List (ByteArray × Bool) := (mset .str .bool a2 r12.1.1 true)
      (let v17 : Int := (IntKind.i64.wrap (a0 + (1 : Int)))
      (kin (v17, r16)))))))))))) else none))
 (k1 ()))
noncomputable def f118_l16_g (a1 : (Int × (Int × (List (List Int) × Unit)))) (x : f118_l16_X) : Option (f118_l16_X ⊕ f118_l16_Y) := f118_l16_k x.1 a1 x.2 (fun x => some (.inl x)) (fun y => some (.inr (.inl y))) (fun y => some (.inr (.inr y)))
noncomputable def f118_l16 (a1 : (Int × (Int × (List (List Int) × Unit)))) (x : f118_l16_X) : Option f118_l16_Y := loopO (f118_l16_g a1) x
noncomputable def f118_l16_nd : Node := { nils := [], sk := f118_l16_sk, outs := f118_l16_outs, Y := f118_l16_Y, L := fun t => f118_l16 ((f118_l16_con t).1) (f118_l16_get t), out := fun t y => f118_l16_out (f118_l16_con t) y, disp := fun t y K => (Sum.elim (fun y => K .ret (f118_l16_o0.fill (f118_l16_w0 (f118_l16_con t) y))) (fun y => K (.exit 2) (f118_l16_o1.fill (f118_l16_w1 (f118_l16_con t) y)))) y }
noncomputable def f118_fx : Fx := { E := env, T := [(16, f16_sm), (117, f117_sm), (119, f119_sm), (146, f146_sm), (125, f125_sm), (39, f39_sm), (148, f148_sm)], H := [], O := [], nodes := [((true, 7), f118_l7_nd), ((true, 16), f118_l16_nd)] }
noncomputable def f118_l7_b : Code := (loops f118_code).getD 0 .skip
theorem f118_l7_r (c : f118_l7_C) (x : f118_l7_X) : roundS f118_fx f118_l7_b f118_l7_nd (f118_l7_put c x) = f118_l7_k x c.1 (fun x => some (.inl (f118_l7_put c x))) (fun y => some (.inr (.inl (f118_l7_w0 c y)))) (fun y => some (.inr (.inr (.inl (f118_l7_w1 c y))))) := by kernel_rfl
theorem f118_l7_n {R : Type} (a0 : Int) (a1 : (Int × (Int × (List (List Int) × Unit)))) (kin : f118_l7_X → Option R) (k0 : Unit → Option R) (k1 : Unit → Option R) : f118_l7_k a0 a1 kin k0 k1 = (f118_l7_g a1 a0).bind (Sum.elim kin (Sum.elim k0 k1)) := by
  simp only [f118_l7_g, f118_l7_k, cond_bind, ite_bind, bind_bind, some_bind, none_bind, elim_bind, Sum.elim_inl, Sum.elim_inr]
theorem f118_l7_ok : LoopOk f118_fx f118_l7_b f118_l7_nd := loop_ok f118_l7_con f118_l7_get f118_l7_put f118_l7_pg (fun c => f118_l7_g c.1) f118_l7_out (fun t y => rfl) (by intro R t y K; rcases y with y | y <;> rfl) (fun c x => by
  refine (f118_l7_r c x).trans ((f118_l7_n _ _ _ _ _).trans ?_)
  first
  | rfl
  | congr 1
    funext s
    rcases s with s | s | s <;> rfl) (fun t => rfl)
noncomputable def f118_l16_b : Code := (loops f118_code).getD 1 .skip
theorem f118_l16_r (c : f118_l16_C) (x : f118_l16_X) : roundS f118_fx f118_l16_b f118_l16_nd (f118_l16_put c x) = f118_l16_k x.1 c.1 x.2 (fun x => some (.inl (f118_l16_put c x))) (fun y => some (.inr (.inl (f118_l16_w0 c y)))) (fun y => some (.inr (.inr (.inl (f118_l16_w1 c y))))) := by kernel_rfl
theorem f118_l16_n {R : Type} (a0 : Int) (a1 : (Int × (Int × (List (List Int) × Unit)))) (a2 : List (ByteArray × Bool)) (kin : f118_l16_X → Option R) (k0 : Int → Option R) (k1 : Unit → Option R) : f118_l16_k a0 a1 a2 kin k0 k1 = (f118_l16_g a1 (a0, a2)).bind (Sum.elim kin (Sum.elim k0 k1)) := by
  simp only [f118_l16_g, f118_l16_k, cond_bind, ite_bind, bind_bind, some_bind, none_bind, elim_bind, Sum.elim_inl, Sum.elim_inr]
theorem f118_l16_ok : LoopOk f118_fx f118_l16_b f118_l16_nd := loop_ok f118_l16_con f118_l16_get f118_l16_put f118_l16_pg (fun c => f118_l16_g c.1) f118_l16_out (fun t y => rfl) (by intro R t y K; rcases y with y | y <;> rfl) (fun c x => by
  refine (f118_l16_r c x).trans ((f118_l16_n _ _ _ _ _ _).trans ?_)
  first
  | rfl
  | congr 1
    funext s
    rcases s with s | s | s <;> rfl) (fun t => rfl)
noncomputable def f118_k {R : Type} (a0 : (Int × (Int × (List (List Int) × Unit)))) (k : (Int × Unit) × (Unit) → Option R) : Option R :=
 ((f16 a0).bind fun r0 =>
 (cond (r0.1.1 != (0 : Int))
 (k ((r0.1.1, ()), ()))
 (cond (decide (((List.length a0.2.2.1 : Nat) : Int) ≤ (10 : Int)))
  (k (((13 : Int), ()), ()))
  ((f118_l7 a0 (0 : Int)).bind fun y6 =>
   ((Sum.elim (fun z7 =>
   (k (((3 : Int), ()), ())))
   (fun z8 =>
   ((f118_l16 a0 ((0 : Int), ([] : List (ByteArray × Bool)))).bind fun y18 =>
    ((Sum.elim (fun z19 =>
    (k ((z19, ()), ())))
    (fun z20 =>
    (k (((0 : Int), ()), ())))) y18)))) y6)))))
noncomputable def f118 (a0 : (Int × (Int × (List (List Int) × Unit)))) : Option ((Int × Unit) × (Unit)) := f118_k a0 some
noncomputable def f118_sm : Sm := ⟨[.ro (.pair (.int .i64) (.pair (.int .i64) (.pair (.slc (.slc (.int .u8))) .unit)))], [((.int .i64), .ro)], fun x => f118 x.1⟩
theorem f118_m (x : ArgT [.ro (.pair (.int .i64) (.pair (.int .i64) (.pair (.slc (.slc (.int .u8))) .unit)))]) : codeS f118_fx f118_code (start [.ro (.pair (.int .i64) (.pair (.int .i64) (.pair (.slc (.slc (.int .u8))) .unit)))] [] x 86) (finK env [.tmp 2] [.ro (.pair (.int .i64) (.pair (.int .i64) (.pair (.slc (.slc (.int .u8))) .unit)))] [((.int .i64), .ro)]) = f118_k x.1 (fun r => some (r, [])) := by kernel_rfl
theorem f118_n {R : Type} (a0 : (Int × (Int × (List (List Int) × Unit)))) (k : (Int × Unit) × (Unit) → Option R) : f118_k a0 k = (f118 a0).bind k := by
  simp only [f118, f118_k, cond_bind, ite_bind, bind_bind, some_bind, none_bind, elim_bind]
theorem f118_ok : SmOk Try.prog 118 f118_sm :=
  sum_of (c := f118_fx) (fn := Try.f118) (code := f118_code) (sm := f118_sm) mixed (env_ok env_envB) (TabsOk.all ⟨f16_c, f117_c, f119_c, f146_c, f125_c, f39_c, f148_c, trivial⟩) Try.func118 (by kernel_rfl)
   ((LoopsOk.of (l := [f118_l7_b, f118_l16_b]) (by kernel_rfl) ⟨node_is (by kernel_rfl) f118_l7_ok, node_is (by kernel_rfl) f118_l16_ok, trivial⟩))
   (no_tails (by kernel_rfl))
   (fun ks x hl => by
    have hk : ks = [] := List.length_eq_zero_iff.1 hl
    subst hk
    exact (f118_m x).trans (f118_n _ _))
theorem f118_c : CalOk Try.prog 118 f118_sm := .inl ⟨f118_ok, ⟨Try.f118, Try.func118, by kernel_rfl, by kernel_rfl⟩⟩
/-! bakelite/chain.follow -/
noncomputable def f120_code : Code := (Try.f120.body).getD .skip
noncomputable def f120_l4_sk : SkS := ⟨53, [(2, .ref 32 []), (0, .ptr 48 []), (4, .ref 143 []), (0, .con (.int .i64)), (0, .con (.int .i64))], [(32, ⟨none, (.slc .bool), (.own .ro), some 2⟩), (48, ⟨some 24, (.pair (.int .i64) (.pair (.int .i64) (.pair (.slc (.slc (.int .u8))) .unit))), .ro, none⟩), (143, ⟨none, (.slc (.int .i64)), (.own .ro), none⟩)]⟩
noncomputable def f120_l4_o0 : SkS := ⟨56, [(6, .nil), (0, .con (.int .i64))], [(32, ⟨none, (.slc .bool), (.own .ro), some 2⟩)]⟩
noncomputable def f120_l4_o1 : SkS := ⟨54, [(8, .ref 143 []), (0, .con (.int .i64))], [(32, ⟨none, (.slc .bool), (.own .ro), some 2⟩), (143, ⟨none, (.slc (.int .i64)), (.own .ro), none⟩)]⟩
noncomputable def f120_l4_outs : List Way := [⟨.ret, [], f120_l4_o0⟩, ⟨(.exit 0), [], f120_l4_o1⟩]
abbrev f120_l4_C := (Int × (Int × (Int × (List (List Int) × Unit))) × (Option Nat))
abbrev f120_l4_X := (Int × List Bool × List Int)
abbrev f120_l4_Y := ((Int × List Bool)) ⊕ ((List Bool × List Int))
noncomputable def f120_l4_con (t : f120_l4_sk.T) : f120_l4_C := (t.1.1, t.2.2.1.1, t.2.2.1.2)
noncomputable def f120_l4_get (t : f120_l4_sk.T) : f120_l4_X := (t.1.2.1, t.2.1.1, t.2.2.2.1.1)
noncomputable def f120_l4_put (c : f120_l4_C) (x : f120_l4_X) : f120_l4_sk.T := ((c.1, (x.1, ())), ((x.2.1, ()), ((c.2.1, c.2.2), ((x.2.2, ()), ()))))
theorem f120_l4_pg (t : f120_l4_sk.T) : f120_l4_put (f120_l4_con t) (f120_l4_get t) = t := by kernel_rfl
noncomputable def f120_l4_w0 (c : f120_l4_C) (y : (Int × List Bool)) : f120_l4_o0.T := ((y.1, ()), ((y.2, ()), ()))
noncomputable def f120_l4_w1 (c : f120_l4_C) (y : (List Bool × List Int)) : f120_l4_o1.T := ((c.1, ()), ((y.1, ()), ((y.2, ()), ())))
noncomputable def f120_l4_out (c : f120_l4_C) (y : f120_l4_Y) : OutV f120_l4_outs := (Sum.elim (fun y => (.inl (f120_l4_w0 c y))) (fun y => (.inr (.inl (f120_l4_w1 c y))))) y
noncomputable def f120_l4_k {R : Type} (a0 : Int) (a1 : Int) (a2 : List Bool) (a3 : (Int × (Int × (List (List Int) × Unit)))) (a4 : List Int) (kin : f120_l4_X → Option R) (k0 : (Int × List Bool) → Option R) (k1 : (List Bool × List Int) → Option R) : Option R :=
 (cond (a1 != (254 : Int))
 (cond (decide (a1 < (10 : Int)))
  (k0 ((3 : Int), a2))
  (cond (decide (a1 ≥ ((List.length a3.2.2.1 : Nat) : Int)))
   (k0 ((3 : Int), a2))
   ((f117 a3 a1).bind fun r5 =>
    (cond (r5.1.1 == (255 : Int))
    (k0 ((3 : Int), a2))
    (if (0 : Int) ≤ a1 ∧ a1 < ((List.length a2 : Nat) : Int) then (cond (List.getD a2 (Int.toNat a1) false)
     (k0 ((10 : Int), a2))
     (if (List.length a4 + 1) * 8 ≤ most ∧ 0 < 8 ∧ 0 < 1 then (let r6 : List Int := (a4 ++ [a1])
      (if (0 : Int) ≤ a1 ∧ a1 < ((List.length a2 : Nat) : Int) then ((f117 a3 a1).bind fun r7 =>
      (kin (r7.1.1, (List.set a2 (Int.toNat a1) true), r6))) else none)) else none)) else none)))))
 (k1 (a2, a4)))
noncomputable def f120_l4_g (a0 : Int) (a3 : (Int × (Int × (List (List Int) × Unit)))) (x : f120_l4_X) : Option (f120_l4_X ⊕ f120_l4_Y) := f120_l4_k a0 x.1 x.2.1 a3 x.2.2 (fun x => some (.inl x)) (fun y => some (.inr (.inl y))) (fun y => some (.inr (.inr y)))
noncomputable def f120_l4 (a0 : Int) (a3 : (Int × (Int × (List (List Int) × Unit)))) (x : f120_l4_X) : Option f120_l4_Y := loopO (f120_l4_g a0 a3) x
noncomputable def f120_l4_nd : Node := { nils := [(8, 143, (.int .i64), .ro)], sk := f120_l4_sk, outs := f120_l4_outs, Y := f120_l4_Y, L := fun t => f120_l4 ((f120_l4_con t).1) ((f120_l4_con t).2.1) (f120_l4_get t), out := fun t y => f120_l4_out (f120_l4_con t) y, disp := fun t y K => (Sum.elim (fun y => K .ret (f120_l4_o0.fill (f120_l4_w0 (f120_l4_con t) y))) (fun y => K (.exit 0) (f120_l4_o1.fill (f120_l4_w1 (f120_l4_con t) y)))) y }
noncomputable def f120_fx : Fx := { E := env, T := [(117, f117_sm)], H := [], O := [], nodes := [((true, 4), f120_l4_nd)] }
noncomputable def f120_l4_b : Code := (loops f120_code).getD 0 .skip
theorem f120_l4_r (c : f120_l4_C) (x : f120_l4_X) : roundS f120_fx f120_l4_b f120_l4_nd (f120_l4_put c x) = f120_l4_k c.1 x.1 x.2.1 c.2.1 x.2.2 (fun x => some (.inl (f120_l4_put c x))) (fun y => some (.inr (.inl (f120_l4_w0 c y)))) (fun y => some (.inr (.inr (.inl (f120_l4_w1 c y))))) := by kernel_rfl
theorem f120_l4_n {R : Type} (a0 : Int) (a1 : Int) (a2 : List Bool) (a3 : (Int × (Int × (List (List Int) × Unit)))) (a4 : List Int) (kin : f120_l4_X → Option R) (k0 : (Int × List Bool) → Option R) (k1 : (List Bool × List Int) → Option R) : f120_l4_k a0 a1 a2 a3 a4 kin k0 k1 = (f120_l4_g a0 a3 (a1, a2, a4)).bind (Sum.elim kin (Sum.elim k0 k1)) := by
  simp only [f120_l4_g, f120_l4_k, cond_bind, ite_bind, bind_bind, some_bind, none_bind, elim_bind, Sum.elim_inl, Sum.elim_inr]
theorem f120_l4_ok : LoopOk f120_fx f120_l4_b f120_l4_nd := loop_ok f120_l4_con f120_l4_get f120_l4_put f120_l4_pg (fun c => f120_l4_g c.1 c.2.1) f120_l4_out (fun t y => rfl) (by intro R t y K; rcases y with y | y <;> rfl) (fun c x => by
  refine (f120_l4_r c x).trans ((f120_l4_n _ _ _ _ _ _ _ _).trans ?_)
  first
  | rfl
  | congr 1
    funext s
    rcases s with s | s | s <;> rfl) (fun t => rfl)
noncomputable def f120_k {R : Type} (a0 : (Int × (Int × (List (List Int) × Unit)))) (a1 : List Int) (a2 : List Bool) (k : (List Int × Int × Unit) × (List Bool × Unit) → Option R) : Option R :=
 (if (0 : Int) ≤ (21 : Int) ∧ (21 : Int) < ((List.length a1 : Nat) : Int) then (let v0 : Int := (IntKind.i64.wrap (List.getD a1 21 (0 : Int)))
 (let v1 : Int := (IntKind.i64.wrap (v0 * 2 ^ (min 8 64)))
 (if (0 : Int) ≤ (22 : Int) ∧ (22 : Int) < ((List.length a1 : Nat) : Int) then (let v2 : Int := (IntKind.i64.wrap (List.getD a1 22 (0 : Int)))
 (let v3 : Int := (IntKind.i64.wrap (v1 + v2))
 (if (0 : Int) ≤ (20 : Int) ∧ (20 : Int) < ((List.length a1 : Nat) : Int) then (let v4 : Int := (IntKind.i64.wrap (List.getD a1 20 (0 : Int)))
 ((f120_l4 v3 a0 (v4, a2, [])).bind fun y8 =>
 ((Sum.elim (fun z9 =>
 (k (([], (z9.1, ())), (z9.2, ()))))
 (fun z10 =>
 (let v11 : Int := (IntKind.i64.wrap (v3 + (128 : Int)))
  (let v12 : Int := (IntKind.i64.wrap (v11 - (1 : Int)))
  (let v13 : Int := (IntKind.i64.wrap (Int.tdiv v12 (128 : Int)))
  (cond (((List.length z10.2 : Nat) : Int) != v13)
  (k (([], ((12 : Int), ())), (z10.1, ())))
  (k ((z10.2, ((0 : Int), ())), (z10.1, ()))))))))) y8))) else none))) else none))) else none)
noncomputable def f120 (a0 : (Int × (Int × (List (List Int) × Unit)))) (a1 : List Int) (a2 : List Bool) : Option ((List Int × Int × Unit) × (List Bool × Unit)) := f120_k a0 a1 a2 some
noncomputable def f120_sm : Sm := ⟨[.ro (.pair (.int .i64) (.pair (.int .i64) (.pair (.slc (.slc (.int .u8))) .unit))), .ro (.slc (.int .u8)), .row .bool .ro], [((.slc (.int .i64)), (.own .ro)), ((.int .i64), .ro)], fun x => f120 x.1 x.2.1 x.2.2.1⟩
theorem f120_m (x : ArgT [.ro (.pair (.int .i64) (.pair (.int .i64) (.pair (.slc (.slc (.int .u8))) .unit))), .ro (.slc (.int .u8)), .row .bool .ro]) : codeS f120_fx f120_code (start [.ro (.pair (.int .i64) (.pair (.int .i64) (.pair (.slc (.slc (.int .u8))) .unit))), .ro (.slc (.int .u8)), .row .bool .ro] [] x 64) (finK env [.tmp 6, .tmp 7] [.ro (.pair (.int .i64) (.pair (.int .i64) (.pair (.slc (.slc (.int .u8))) .unit))), .ro (.slc (.int .u8)), .row .bool .ro] [((.slc (.int .i64)), (.own .ro)), ((.int .i64), .ro)]) = f120_k x.1 x.2.1 x.2.2.1 (fun r => some (r, [])) := by kernel_rfl
theorem f120_n {R : Type} (a0 : (Int × (Int × (List (List Int) × Unit)))) (a1 : List Int) (a2 : List Bool) (k : (List Int × Int × Unit) × (List Bool × Unit) → Option R) : f120_k a0 a1 a2 k = (f120 a0 a1 a2).bind k := by
  simp only [f120, f120_k, cond_bind, ite_bind, bind_bind, some_bind, none_bind, elim_bind]
theorem f120_ok : SmOk Try.prog 120 f120_sm :=
  sum_of (c := f120_fx) (fn := Try.f120) (code := f120_code) (sm := f120_sm) mixed (env_ok env_envB) (TabsOk.all ⟨f117_c, trivial⟩) Try.func120 (by kernel_rfl)
   ((LoopsOk.of (l := [f120_l4_b]) (by kernel_rfl) ⟨node_is (by kernel_rfl) f120_l4_ok, trivial⟩))
   (no_tails (by kernel_rfl))
   (fun ks x hl => by
    have hk : ks = [] := List.length_eq_zero_iff.1 hl
    subst hk
    exact (f120_m x).trans (f120_n _ _ _ _))
theorem f120_c : CalOk Try.prog 120 f120_sm := .inl ⟨f120_ok, ⟨Try.f120, Try.func120, by kernel_rfl, by kernel_rfl⟩⟩
/-! bakelite/chain.Check -/
noncomputable def f62_code : Code := (Try.f62.body).getD .skip
noncomputable def f62_l6_sk : SkS := ⟨38, [(1, .ptr 16 []), (2, .ref 288 []), (14, .con (.int .i64))], [(16, ⟨some 24, (.pair (.int .i64) (.pair (.int .i64) (.pair (.slc (.slc (.int .u8))) .unit))), .ro, none⟩), (288, ⟨none, (.slc .bool), (.own .ro), none⟩)]⟩
noncomputable def f62_l6_o0 : SkS := ⟨55, [(2, .con (.int .i64))], []⟩
noncomputable def f62_l6_o1 : SkS := ⟨53, [(1, .ptr 16 []), (2, .ref 288 [])], [(16, ⟨some 24, (.pair (.int .i64) (.pair (.int .i64) (.pair (.slc (.slc (.int .u8))) .unit))), .ro, none⟩), (288, ⟨none, (.slc .bool), (.own .ro), none⟩)]⟩
noncomputable def f62_l6_outs : List Way := [⟨.ret, [], f62_l6_o0⟩, ⟨(.exit 0), [], f62_l6_o1⟩]
abbrev f62_l6_C := ((Int × (Int × (List (List Int) × Unit))) × (Option Nat))
abbrev f62_l6_X := (Int × List Bool)
abbrev f62_l6_Y := (Int) ⊕ (List Bool)
noncomputable def f62_l6_con (t : f62_l6_sk.T) : f62_l6_C := (t.2.1.1, t.2.1.2)
noncomputable def f62_l6_get (t : f62_l6_sk.T) : f62_l6_X := (t.1.1, t.2.2.1.1)
noncomputable def f62_l6_put (c : f62_l6_C) (x : f62_l6_X) : f62_l6_sk.T := ((x.1, ()), ((c.1, c.2), ((x.2, ()), ())))
theorem f62_l6_pg (t : f62_l6_sk.T) : f62_l6_put (f62_l6_con t) (f62_l6_get t) = t := by kernel_rfl
noncomputable def f62_l6_w0 (c : f62_l6_C) (y : Int) : f62_l6_o0.T := ((y, ()), ())
noncomputable def f62_l6_w1 (c : f62_l6_C) (y : List Bool) : f62_l6_o1.T := ((), ((c.1, c.2), ((y, ()), ())))
noncomputable def f62_l6_out (c : f62_l6_C) (y : f62_l6_Y) : OutV f62_l6_outs := (Sum.elim (fun y => (.inl (f62_l6_w0 c y))) (fun y => (.inr (.inl (f62_l6_w1 c y))))) y
noncomputable def f62_l6_k {R : Type} (a0 : Int) (a1 : (Int × (Int × (List (List Int) × Unit)))) (a2 : List Bool) (kin : f62_l6_X → Option R) (k0 : Int → Option R) (k1 : List Bool → Option R) : Option R :=
 (cond (decide (a0 < (32 : Int)))
 ((f119 a1 a0).bind fun r1 =>
  (if (0 : Int) ≤ (0 : Int) ∧ (0 : Int) < ((List.length r1.1.1 : Nat) : Int) then (cond ((List.getD r1.1.1 0 (0 : Int)) != (0 : Int))
  ((f120 a1 r1.1.1 a2).bind fun r2 =>
   (cond (r2.1.2.1 != (0 : Int))
   (k0 r2.1.2.1)
   (let v3 : Int := (IntKind.i64.wrap (a0 + (1 : Int)))
    (kin (v3, r2.2.1)))))
  (let v4 : Int := (IntKind.i64.wrap (a0 + (1 : Int)))
   (kin (v4, a2)))) else none))
 (k1 a2))
noncomputable def f62_l6_g (a1 : (Int × (Int × (List (List Int) × Unit)))) (x : f62_l6_X) : Option (f62_l6_X ⊕ f62_l6_Y) := f62_l6_k x.1 a1 x.2 (fun x => some (.inl x)) (fun y => some (.inr (.inl y))) (fun y => some (.inr (.inr y)))
noncomputable def f62_l6 (a1 : (Int × (Int × (List (List Int) × Unit)))) (x : f62_l6_X) : Option f62_l6_Y := loopO (f62_l6_g a1) x
noncomputable def f62_l6_nd : Node := { nils := [], sk := f62_l6_sk, outs := f62_l6_outs, Y := f62_l6_Y, L := fun t => f62_l6 ((f62_l6_con t).1) (f62_l6_get t), out := fun t y => f62_l6_out (f62_l6_con t) y, disp := fun t y K => (Sum.elim (fun y => K .ret (f62_l6_o0.fill (f62_l6_w0 (f62_l6_con t) y))) (fun y => K (.exit 0) (f62_l6_o1.fill (f62_l6_w1 (f62_l6_con t) y)))) y }
noncomputable def f62_l15_sk : SkS := ⟨48, [(1, .ptr 16 []), (2, .ref 288 []), (4, .con (.int .i64))], [(16, ⟨some 24, (.pair (.int .i64) (.pair (.int .i64) (.pair (.slc (.slc (.int .u8))) .unit))), .ro, none⟩), (288, ⟨none, (.slc .bool), (.own .ro), none⟩)]⟩
noncomputable def f62_l15_o0 : SkS := ⟨55, [(2, .con (.int .i64))], []⟩
noncomputable def f62_l15_o1 : SkS := ⟨58, [], []⟩
noncomputable def f62_l15_outs : List Way := [⟨.ret, [], f62_l15_o0⟩, ⟨(.exit 2), [], f62_l15_o1⟩]
abbrev f62_l15_C := ((Int × (Int × (List (List Int) × Unit))) × List Bool × (Option Nat))
abbrev f62_l15_X := Int
abbrev f62_l15_Y := (Unit) ⊕ (Unit)
noncomputable def f62_l15_con (t : f62_l15_sk.T) : f62_l15_C := (t.2.1.1, t.2.2.1.1, t.2.1.2)
noncomputable def f62_l15_get (t : f62_l15_sk.T) : f62_l15_X := t.1.1
noncomputable def f62_l15_put (c : f62_l15_C) (x : f62_l15_X) : f62_l15_sk.T := ((x, ()), ((c.1, c.2.2), ((c.2.1, ()), ())))
theorem f62_l15_pg (t : f62_l15_sk.T) : f62_l15_put (f62_l15_con t) (f62_l15_get t) = t := by kernel_rfl
noncomputable def f62_l15_w0 (c : f62_l15_C) (y : Unit) : f62_l15_o0.T := (((7 : Int), ()), ())
noncomputable def f62_l15_w1 (c : f62_l15_C) (y : Unit) : f62_l15_o1.T := ((), ())
noncomputable def f62_l15_out (c : f62_l15_C) (y : f62_l15_Y) : OutV f62_l15_outs := (Sum.elim (fun y => (.inl (f62_l15_w0 c y))) (fun y => (.inr (.inl (f62_l15_w1 c y))))) y
noncomputable def f62_l15_k {R : Type} (a0 : Int) (a1 : (Int × (Int × (List (List Int) × Unit)))) (a2 : List Bool) (kin : f62_l15_X → Option R) (k0 : Unit → Option R) (k1 : Unit → Option R) : Option R :=
 (cond (decide (a0 < ((List.length a1.2.2.1 : Nat) : Int)))
 (if (0 : Int) ≤ a0 ∧ a0 < ((List.length a2 : Nat) : Int) then (cond (!(List.getD a2 (Int.toNat a0) false))
  ((f117 a1 a0).bind fun r8 =>
   (cond (r8.1.1 != (255 : Int))
   (k0 ())
   (let v9 : Int := (IntKind.i64.wrap (a0 + (1 : Int)))
    (kin v9))))
  (let v10 : Int := (IntKind.i64.wrap (a0 + (1 : Int)))
   (kin v10))) else none)
 (k1 ()))
noncomputable def f62_l15_g (a1 : (Int × (Int × (List (List Int) × Unit)))) (a2 : List Bool) (x : f62_l15_X) : Option (f62_l15_X ⊕ f62_l15_Y) := f62_l15_k x a1 a2 (fun x => some (.inl x)) (fun y => some (.inr (.inl y))) (fun y => some (.inr (.inr y)))
noncomputable def f62_l15 (a1 : (Int × (Int × (List (List Int) × Unit)))) (a2 : List Bool) (x : f62_l15_X) : Option f62_l15_Y := loopO (f62_l15_g a1 a2) x
noncomputable def f62_l15_nd : Node := { nils := [], sk := f62_l15_sk, outs := f62_l15_outs, Y := f62_l15_Y, L := fun t => f62_l15 ((f62_l15_con t).1) ((f62_l15_con t).2.1) (f62_l15_get t), out := fun t y => f62_l15_out (f62_l15_con t) y, disp := fun t y K => (Sum.elim (fun y => K .ret (f62_l15_o0.fill (f62_l15_w0 (f62_l15_con t) y))) (fun y => K (.exit 2) (f62_l15_o1.fill (f62_l15_w1 (f62_l15_con t) y)))) y }
noncomputable def f62_fx : Fx := { E := env, T := [(118, f118_sm), (119, f119_sm), (120, f120_sm), (117, f117_sm)], H := [], O := [], nodes := [((true, 6), f62_l6_nd), ((true, 15), f62_l15_nd)] }
noncomputable def f62_l6_b : Code := (loops f62_code).getD 0 .skip
theorem f62_l6_r (c : f62_l6_C) (x : f62_l6_X) : roundS f62_fx f62_l6_b f62_l6_nd (f62_l6_put c x) = f62_l6_k x.1 c.1 x.2 (fun x => some (.inl (f62_l6_put c x))) (fun y => some (.inr (.inl (f62_l6_w0 c y)))) (fun y => some (.inr (.inr (.inl (f62_l6_w1 c y))))) := by kernel_rfl
theorem f62_l6_n {R : Type} (a0 : Int) (a1 : (Int × (Int × (List (List Int) × Unit)))) (a2 : List Bool) (kin : f62_l6_X → Option R) (k0 : Int → Option R) (k1 : List Bool → Option R) : f62_l6_k a0 a1 a2 kin k0 k1 = (f62_l6_g a1 (a0, a2)).bind (Sum.elim kin (Sum.elim k0 k1)) := by
  simp only [f62_l6_g, f62_l6_k, cond_bind, ite_bind, bind_bind, some_bind, none_bind, elim_bind, Sum.elim_inl, Sum.elim_inr]
theorem f62_l6_ok : LoopOk f62_fx f62_l6_b f62_l6_nd := loop_ok f62_l6_con f62_l6_get f62_l6_put f62_l6_pg (fun c => f62_l6_g c.1) f62_l6_out (fun t y => rfl) (by intro R t y K; rcases y with y | y <;> rfl) (fun c x => by
  refine (f62_l6_r c x).trans ((f62_l6_n _ _ _ _ _ _).trans ?_)
  first
  | rfl
  | congr 1
    funext s
    rcases s with s | s | s <;> rfl) (fun t => rfl)
noncomputable def f62_l15_b : Code := (loops f62_code).getD 1 .skip
theorem f62_l15_r (c : f62_l15_C) (x : f62_l15_X) : roundS f62_fx f62_l15_b f62_l15_nd (f62_l15_put c x) = f62_l15_k x c.1 c.2.1 (fun x => some (.inl (f62_l15_put c x))) (fun y => some (.inr (.inl (f62_l15_w0 c y)))) (fun y => some (.inr (.inr (.inl (f62_l15_w1 c y))))) := by kernel_rfl
theorem f62_l15_n {R : Type} (a0 : Int) (a1 : (Int × (Int × (List (List Int) × Unit)))) (a2 : List Bool) (kin : f62_l15_X → Option R) (k0 : Unit → Option R) (k1 : Unit → Option R) : f62_l15_k a0 a1 a2 kin k0 k1 = (f62_l15_g a1 a2 a0).bind (Sum.elim kin (Sum.elim k0 k1)) := by
  simp only [f62_l15_g, f62_l15_k, cond_bind, ite_bind, bind_bind, some_bind, none_bind, elim_bind, Sum.elim_inl, Sum.elim_inr]
theorem f62_l15_ok : LoopOk f62_fx f62_l15_b f62_l15_nd := loop_ok f62_l15_con f62_l15_get f62_l15_put f62_l15_pg (fun c => f62_l15_g c.1 c.2.1) f62_l15_out (fun t y => rfl) (by intro R t y K; rcases y with y | y <;> rfl) (fun c x => by
  refine (f62_l15_r c x).trans ((f62_l15_n _ _ _ _ _ _).trans ?_)
  first
  | rfl
  | congr 1
    funext s
    rcases s with s | s | s <;> rfl) (fun t => rfl)
noncomputable def f62_k {R : Type} (a0 : (Int × (Int × (List (List Int) × Unit)))) (k : (Int × Unit) × (Unit) → Option R) : Option R :=
 ((f118 a0).bind fun r0 =>
 (cond (r0.1.1 != (0 : Int))
 (k ((r0.1.1, ()), ()))
 (if (0 : Int) ≤ ((List.length a0.2.2.1 : Nat) : Int) ∧ ((List.length a0.2.2.1 : Nat) : Int) ≤ ((List.length a0.2.2.1 : Nat) : Int) ∧ ((List.length a0.2.2.1 : Nat) : Int) * 1 ≤ (most : Int) ∧ 0 < 1 ∧ 0 < 1 then ((f62_l6 a0 ((0 : Int), (List.replicate (Int.toNat ((List.length a0.2.2.1 : Nat) : Int)) false))).bind fun y5 =>
  ((Sum.elim (fun z6 =>
  (k ((z6, ()), ())))
  (fun z7 =>
  ((f62_l15 a0 z7 (10 : Int)).bind fun y11 =>
   ((Sum.elim (fun z12 =>
   (k (((7 : Int), ()), ())))
   (fun z13 =>
   (k (((0 : Int), ()), ())))) y11)))) y5)) else none)))
noncomputable def f62 (a0 : (Int × (Int × (List (List Int) × Unit)))) : Option ((Int × Unit) × (Unit)) := f62_k a0 some
noncomputable def f62_sm : Sm := ⟨[.ro (.pair (.int .i64) (.pair (.int .i64) (.pair (.slc (.slc (.int .u8))) .unit)))], [((.int .i64), .ro)], fun x => f62 x.1⟩
theorem f62_m (x : ArgT [.ro (.pair (.int .i64) (.pair (.int .i64) (.pair (.slc (.slc (.int .u8))) .unit)))]) : codeS f62_fx f62_code (start [.ro (.pair (.int .i64) (.pair (.int .i64) (.pair (.slc (.slc (.int .u8))) .unit)))] [] x 58) (finK env [.tmp 2] [.ro (.pair (.int .i64) (.pair (.int .i64) (.pair (.slc (.slc (.int .u8))) .unit)))] [((.int .i64), .ro)]) = f62_k x.1 (fun r => some (r, [])) := by kernel_rfl
theorem f62_n {R : Type} (a0 : (Int × (Int × (List (List Int) × Unit)))) (k : (Int × Unit) × (Unit) → Option R) : f62_k a0 k = (f62 a0).bind k := by
  simp only [f62, f62_k, cond_bind, ite_bind, bind_bind, some_bind, none_bind, elim_bind]
theorem f62_ok : SmOk Try.prog 62 f62_sm :=
  sum_of (c := f62_fx) (fn := Try.f62) (code := f62_code) (sm := f62_sm) mixed (env_ok env_envB) (TabsOk.all ⟨f118_c, f119_c, f120_c, f117_c, trivial⟩) Try.func62 (by kernel_rfl)
   ((LoopsOk.of (l := [f62_l6_b, f62_l15_b]) (by kernel_rfl) ⟨node_is (by kernel_rfl) f62_l6_ok, node_is (by kernel_rfl) f62_l15_ok, trivial⟩))
   (no_tails (by kernel_rfl))
   (fun ks x hl => by
    have hk : ks = [] := List.length_eq_zero_iff.1 hl
    subst hk
    exact (f62_m x).trans (f62_n _ _))
theorem f62_c : CalOk Try.prog 62 f62_sm := .inl ⟨f62_ok, ⟨Try.f62, Try.func62, by kernel_rfl, by kernel_rfl⟩⟩
/-! bakelite/chain.Room -/
noncomputable def f61_code : Code := (Try.f61.body).getD .skip
noncomputable def f61_l6_sk : SkS := ⟨19, [(1, .ptr 16 []), (3, .con (.int .i64)), (0, .con (.int .i64))], [(16, ⟨some 24, (.pair (.int .i64) (.pair (.int .i64) (.pair (.slc (.slc (.int .u8))) .unit))), .ro, none⟩)]⟩
noncomputable def f61_l6_o0 : SkS := ⟨20, [(5, .con (.int .i64))], []⟩
noncomputable def f61_l6_outs : List Way := [⟨(.exit 0), [], f61_l6_o0⟩]
abbrev f61_l6_C := ((Int × (Int × (List (List Int) × Unit))) × (Option Nat))
abbrev f61_l6_X := (Int × Int)
abbrev f61_l6_Y := (Int)
noncomputable def f61_l6_con (t : f61_l6_sk.T) : f61_l6_C := (t.2.1.1, t.2.1.2)
noncomputable def f61_l6_get (t : f61_l6_sk.T) : f61_l6_X := (t.1.1, t.1.2.1)
noncomputable def f61_l6_put (c : f61_l6_C) (x : f61_l6_X) : f61_l6_sk.T := ((x.1, (x.2, ())), ((c.1, c.2), ()))
theorem f61_l6_pg (t : f61_l6_sk.T) : f61_l6_put (f61_l6_con t) (f61_l6_get t) = t := by kernel_rfl
noncomputable def f61_l6_w0 (c : f61_l6_C) (y : Int) : f61_l6_o0.T := ((y, ()), ())
noncomputable def f61_l6_out (c : f61_l6_C) (y : f61_l6_Y) : OutV f61_l6_outs := (fun y => (.inl (f61_l6_w0 c y))) y
noncomputable def f61_l6_k {R : Type} (a0 : Int) (a1 : Int) (a2 : (Int × (Int × (List (List Int) × Unit)))) (kin : f61_l6_X → Option R) (k0 : Int → Option R) : Option R :=
 (cond (decide (a1 < ((List.length a2.2.2.1 : Nat) : Int)))
 ((f117 a2 a1).bind fun r1 =>
  (cond (r1.1.1 == (255 : Int))
  (let v2 : Int := (IntKind.i64.wrap (a0 + (1 : Int)))
   (let v3 : Int := (IntKind.i64.wrap (a1 + (1 : Int)))
   (kin (v2, v3))))
  (let v4 : Int := (IntKind.i64.wrap (a1 + (1 : Int)))
   (kin (a0, v4)))))
 (k0 a0))
noncomputable def f61_l6_g (a2 : (Int × (Int × (List (List Int) × Unit)))) (x : f61_l6_X) : Option (f61_l6_X ⊕ f61_l6_Y) := f61_l6_k x.1 x.2 a2 (fun x => some (.inl x)) (fun y => some (.inr y))
noncomputable def f61_l6 (a2 : (Int × (Int × (List (List Int) × Unit)))) (x : f61_l6_X) : Option f61_l6_Y := loopO (f61_l6_g a2) x
noncomputable def f61_l6_nd : Node := { nils := [], sk := f61_l6_sk, outs := f61_l6_outs, Y := f61_l6_Y, L := fun t => f61_l6 ((f61_l6_con t).1) (f61_l6_get t), out := fun t y => f61_l6_out (f61_l6_con t) y, disp := fun t y K => (fun y => K (.exit 0) (f61_l6_o0.fill (f61_l6_w0 (f61_l6_con t) y))) y }
noncomputable def f61_fx : Fx := { E := env, T := [(62, f62_sm), (117, f117_sm)], H := [], O := [], nodes := [((true, 6), f61_l6_nd)] }
noncomputable def f61_l6_b : Code := (loops f61_code).getD 0 .skip
theorem f61_l6_r (c : f61_l6_C) (x : f61_l6_X) : roundS f61_fx f61_l6_b f61_l6_nd (f61_l6_put c x) = f61_l6_k x.1 x.2 c.1 (fun x => some (.inl (f61_l6_put c x))) (fun y => some (.inr (.inl (f61_l6_w0 c y)))) := by kernel_rfl
theorem f61_l6_n {R : Type} (a0 : Int) (a1 : Int) (a2 : (Int × (Int × (List (List Int) × Unit)))) (kin : f61_l6_X → Option R) (k0 : Int → Option R) : f61_l6_k a0 a1 a2 kin k0 = (f61_l6_g a2 (a0, a1)).bind (Sum.elim kin k0) := by
  simp only [f61_l6_g, f61_l6_k, cond_bind, ite_bind, bind_bind, some_bind, none_bind, elim_bind, Sum.elim_inl, Sum.elim_inr]
theorem f61_l6_ok : LoopOk f61_fx f61_l6_b f61_l6_nd := loop_ok f61_l6_con f61_l6_get f61_l6_put f61_l6_pg (fun c => f61_l6_g c.1) f61_l6_out (fun t y => rfl) (fun t y K => rfl) (fun c x => by
  refine (f61_l6_r c x).trans ((f61_l6_n _ _ _ _ _).trans ?_)
  first
  | rfl
  | congr 1
    funext s
    rcases s with s | s <;> rfl) (fun t => rfl)
noncomputable def f61_k {R : Type} (a0 : (Int × (Int × (List (List Int) × Unit)))) (k : (Int × Int × Unit) × (Unit) → Option R) : Option R :=
 ((f62 a0).bind fun r0 =>
 (cond (r0.1.1 != (0 : Int))
 (k (((0 : Int), (r0.1.1, ())), ()))
 ((f61_l6 a0 ((0 : Int), (10 : Int))).bind fun y5 =>
  (k ((y5, ((0 : Int), ())), ())))))
noncomputable def f61 (a0 : (Int × (Int × (List (List Int) × Unit)))) : Option ((Int × Int × Unit) × (Unit)) := f61_k a0 some
noncomputable def f61_sm : Sm := ⟨[.ro (.pair (.int .i64) (.pair (.int .i64) (.pair (.slc (.slc (.int .u8))) .unit)))], [((.int .i64), .ro), ((.int .i64), .ro)], fun x => f61 x.1⟩
theorem f61_m (x : ArgT [.ro (.pair (.int .i64) (.pair (.int .i64) (.pair (.slc (.slc (.int .u8))) .unit)))]) : codeS f61_fx f61_code (start [.ro (.pair (.int .i64) (.pair (.int .i64) (.pair (.slc (.slc (.int .u8))) .unit)))] [] x 26) (finK env [.tmp 2, .tmp 3] [.ro (.pair (.int .i64) (.pair (.int .i64) (.pair (.slc (.slc (.int .u8))) .unit)))] [((.int .i64), .ro), ((.int .i64), .ro)]) = f61_k x.1 (fun r => some (r, [])) := by kernel_rfl
theorem f61_n {R : Type} (a0 : (Int × (Int × (List (List Int) × Unit)))) (k : (Int × Int × Unit) × (Unit) → Option R) : f61_k a0 k = (f61 a0).bind k := by
  simp only [f61, f61_k, cond_bind, ite_bind, bind_bind, some_bind, none_bind, elim_bind]
theorem f61_ok : SmOk Try.prog 61 f61_sm :=
  sum_of (c := f61_fx) (fn := Try.f61) (code := f61_code) (sm := f61_sm) mixed (env_ok env_envB) (TabsOk.all ⟨f62_c, f117_c, trivial⟩) Try.func61 (by kernel_rfl)
   ((LoopsOk.of (l := [f61_l6_b]) (by kernel_rfl) ⟨node_is (by kernel_rfl) f61_l6_ok, trivial⟩))
   (no_tails (by kernel_rfl))
   (fun ks x hl => by
    have hk : ks = [] := List.length_eq_zero_iff.1 hl
    subst hk
    exact (f61_m x).trans (f61_n _ _))
theorem f61_c : CalOk Try.prog 61 f61_sm := .inl ⟨f61_ok, ⟨Try.f61, Try.func61, by kernel_rfl, by kernel_rfl⟩⟩
/-! bakelite/image.New -/
noncomputable def f21_code : Code := (Try.f21.body).getD .skip
noncomputable def f21_l5_sk : SkS := ⟨9, [(4, .ptr 64 []), (1, .ptr 96 []), (20, .con (.int .i64)), (0, .con (.int .i64))], [(64, ⟨some 24, (.pair (.int .i64) (.pair (.int .i64) (.pair (.slc (.slc (.int .u8))) .unit))), (.pair .ro (.pair .ro (.pair (.own (.own .ro)) .ro))), none⟩), (96, ⟨some 24, (.pair (.int .i64) (.pair (.int .i64) (.pair (.slc (.slc (.int .u8))) .unit))), (.pair .ro (.pair .ro (.pair (.own (.own .ro)) .ro))), none⟩)]⟩
noncomputable def f21_l5_o0 : SkS := ⟨31, [(4, .ptr 64 []), (1, .ptr 96 [])], [(64, ⟨some 24, (.pair (.int .i64) (.pair (.int .i64) (.pair (.slc (.slc (.int .u8))) .unit))), (.pair .ro (.pair .ro (.pair (.own (.own .ro)) .ro))), none⟩), (96, ⟨some 24, (.pair (.int .i64) (.pair (.int .i64) (.pair (.slc (.slc (.int .u8))) .unit))), (.pair .ro (.pair .ro (.pair (.own (.own .ro)) .ro))), none⟩)]⟩
noncomputable def f21_l5_outs : List Way := [⟨(.exit 0), [], f21_l5_o0⟩]
abbrev f21_l5_C := (Int × (Int × (Int × (List (List Int) × Unit))) × (Option Nat) × (Option Nat))
abbrev f21_l5_X := (Int × (Int × (Int × (List (List Int) × Unit))))
abbrev f21_l5_Y := ((Int × (Int × (List (List Int) × Unit))))
noncomputable def f21_l5_con (t : f21_l5_sk.T) : f21_l5_C := (t.1.1, t.2.1.1, t.2.1.2, t.2.2.1.2)
noncomputable def f21_l5_get (t : f21_l5_sk.T) : f21_l5_X := (t.1.2.1, t.2.2.1.1)
noncomputable def f21_l5_put (c : f21_l5_C) (x : f21_l5_X) : f21_l5_sk.T := ((c.1, (x.1, ())), ((c.2.1, c.2.2.1), ((x.2, c.2.2.2), ())))
theorem f21_l5_pg (t : f21_l5_sk.T) : f21_l5_put (f21_l5_con t) (f21_l5_get t) = t := by kernel_rfl
noncomputable def f21_l5_w0 (c : f21_l5_C) (y : (Int × (Int × (List (List Int) × Unit)))) : f21_l5_o0.T := ((), ((c.2.1, c.2.2.1), ((y, c.2.2.2), ())))
noncomputable def f21_l5_out (c : f21_l5_C) (y : f21_l5_Y) : OutV f21_l5_outs := (fun y => (.inl (f21_l5_w0 c y))) y
noncomputable def f21_l5_k {R : Type} (a0 : Int) (a1 : Int) (a2 : (Int × (Int × (List (List Int) × Unit)))) (a3 : (Int × (Int × (List (List Int) × Unit)))) (kin : f21_l5_X → Option R) (k0 : (Int × (Int × (List (List Int) × Unit))) → Option R) : Option R :=
 (cond (decide (a1 < a0))
 (if (List.length a3.2.2.1 + 1) * 24 ≤ most ∧ 0 < 24 ∧ 0 < 1 then (let r1 : List (List Int) := (a3.2.2.1 ++ [(List.replicate 128 (0 : Int))])
  (let v2 : Int := (IntKind.i64.wrap (a1 + (1 : Int)))
  (kin (v2, (a3.1, (a3.2.1, (r1, a3.2.2.2))))))) else none)
 (k0 a3))
noncomputable def f21_l5_g (a0 : Int) (a2 : (Int × (Int × (List (List Int) × Unit)))) (x : f21_l5_X) : Option (f21_l5_X ⊕ f21_l5_Y) := f21_l5_k a0 x.1 a2 x.2 (fun x => some (.inl x)) (fun y => some (.inr y))
noncomputable def f21_l5 (a0 : Int) (a2 : (Int × (Int × (List (List Int) × Unit)))) (x : f21_l5_X) : Option f21_l5_Y := loopO (f21_l5_g a0 a2) x
noncomputable def f21_l5_nd : Node := { nils := [], sk := f21_l5_sk, outs := f21_l5_outs, Y := f21_l5_Y, L := fun t => f21_l5 ((f21_l5_con t).1) ((f21_l5_con t).2.1) (f21_l5_get t), out := fun t y => f21_l5_out (f21_l5_con t) y, disp := fun t y K => (fun y => K (.exit 0) (f21_l5_o0.fill (f21_l5_w0 (f21_l5_con t) y))) y }
noncomputable def f21_fx : Fx := { E := env, T := [], H := [(4, (.pair .ro (.pair .ro (.pair (.own (.own .ro)) .ro)))), (6, (.pair .ro (.pair .ro (.pair (.own (.own .ro)) .ro)))), (34, (.own (.own .ro))), (33, (.own (.own .ro))), (35, (.own (.own .ro))), (36, (.own (.own .ro)))], O := [], nodes := [((true, 5), f21_l5_nd)] }
noncomputable def f21_l5_b : Code := (loops f21_code).getD 0 .skip
theorem f21_l5_r (c : f21_l5_C) (x : f21_l5_X) : roundS f21_fx f21_l5_b f21_l5_nd (f21_l5_put c x) = f21_l5_k c.1 x.1 c.2.1 x.2 (fun x => some (.inl (f21_l5_put c x))) (fun y => some (.inr (.inl (f21_l5_w0 c y)))) := by kernel_rfl
theorem f21_l5_n {R : Type} (a0 : Int) (a1 : Int) (a2 : (Int × (Int × (List (List Int) × Unit)))) (a3 : (Int × (Int × (List (List Int) × Unit)))) (kin : f21_l5_X → Option R) (k0 : (Int × (Int × (List (List Int) × Unit))) → Option R) : f21_l5_k a0 a1 a2 a3 kin k0 = (f21_l5_g a0 a2 (a1, a3)).bind (Sum.elim kin k0) := by
  simp only [f21_l5_g, f21_l5_k, cond_bind, ite_bind, bind_bind, some_bind, none_bind, elim_bind, Sum.elim_inl, Sum.elim_inr]
theorem f21_l5_ok : LoopOk f21_fx f21_l5_b f21_l5_nd := loop_ok f21_l5_con f21_l5_get f21_l5_put f21_l5_pg (fun c => f21_l5_g c.1 c.2.1) f21_l5_out (fun t y => rfl) (fun t y K => rfl) (fun c x => by
  refine (f21_l5_r c x).trans ((f21_l5_n _ _ _ _ _ _).trans ?_)
  first
  | rfl
  | congr 1
    funext s
    rcases s with s | s <;> rfl) (fun t => rfl)
noncomputable def f21_k {R : Type} (a0 : Int) (a1 : Int) (k : ((Int × (Int × (List (List Int) × Unit))) × Int × Unit) × (Unit) → Option R) : Option R :=
 (cond (decide (a0 < (1 : Int)))
 (k ((((0 : Int), ((0 : Int), ([], ()))), ((1 : Int), ())), ()))
 (cond (decide (a0 > (20 : Int)))
  (k ((((0 : Int), ((0 : Int), ([], ()))), ((1 : Int), ())), ()))
  (cond (decide (a1 < (1 : Int)))
   (k ((((0 : Int), ((0 : Int), ([], ()))), ((1 : Int), ())), ()))
   (cond (decide (a1 > (12 : Int)))
    (k ((((0 : Int), ((0 : Int), ([], ()))), ((1 : Int), ())), ()))
    (let v0 : Int := (IntKind.i64.wrap (a0 * a1))
     ((f21_l5 v0 ((0 : Int), ((0 : Int), (([] : List (List Int)), ()))) ((0 : Int), (a0, (a1, ([], ()))))).bind fun y3 =>
     (k ((y3, ((0 : Int), ())), ()))))))))
noncomputable def f21 (a0 : Int) (a1 : Int) : Option (((Int × (Int × (List (List Int) × Unit))) × Int × Unit) × (Unit)) := f21_k a0 a1 some
noncomputable def f21_sm : Sm := ⟨[.ro (.int .i64), .ro (.int .i64)], [((.pair (.int .i64) (.pair (.int .i64) (.pair (.slc (.slc (.int .u8))) .unit))), (.pair .ro (.pair .ro (.pair (.own (.own .ro)) .ro)))), ((.int .i64), .ro)], fun x => f21 x.1 x.2.1⟩
theorem f21_m (x : ArgT [.ro (.int .i64), .ro (.int .i64)]) : codeS f21_fx f21_code (start [.ro (.int .i64), .ro (.int .i64)] [] x 38) (finK env [.cell 4 24, .tmp 5] [.ro (.int .i64), .ro (.int .i64)] [((.pair (.int .i64) (.pair (.int .i64) (.pair (.slc (.slc (.int .u8))) .unit))), (.pair .ro (.pair .ro (.pair (.own (.own .ro)) .ro)))), ((.int .i64), .ro)]) = f21_k x.1 x.2.1 (fun r => some (r, [])) := by kernel_rfl
theorem f21_n {R : Type} (a0 : Int) (a1 : Int) (k : ((Int × (Int × (List (List Int) × Unit))) × Int × Unit) × (Unit) → Option R) : f21_k a0 a1 k = (f21 a0 a1).bind k := by
  simp only [f21, f21_k, cond_bind, ite_bind, bind_bind, some_bind, none_bind, elim_bind]
theorem f21_ok : SmOk Try.prog 21 f21_sm :=
  sum_of (c := f21_fx) (fn := Try.f21) (code := f21_code) (sm := f21_sm) mixed (env_ok env_envB) (TabsOk.all trivial) Try.func21 (by kernel_rfl)
   ((LoopsOk.of (l := [f21_l5_b]) (by kernel_rfl) ⟨node_is (by kernel_rfl) f21_l5_ok, trivial⟩))
   (no_tails (by kernel_rfl))
   (fun ks x hl => by
    have hk : ks = [] := List.length_eq_zero_iff.1 hl
    subst hk
    exact (f21_m x).trans (f21_n _ _ _))
theorem f21_c : CalOk Try.prog 21 f21_sm := .inl ⟨f21_ok, ⟨Try.f21, Try.func21, by kernel_rfl, by kernel_rfl⟩⟩
/-! bakelite/chain.New -/
noncomputable def f36_code : Code := (Try.f36.body).getD .skip
noncomputable def f36_l7_sk : SkS := ⟨23, [(4, .ptr 64 []), (1, .ptr 96 []), (18, .con (.int .i64))], [(64, ⟨some 24, (.pair (.int .i64) (.pair (.int .i64) (.pair (.slc (.slc (.int .u8))) .unit))), (.pair .ro (.pair .ro (.pair (.own (.own .ro)) .ro))), none⟩), (96, ⟨some 24, (.pair (.int .i64) (.pair (.int .i64) (.pair (.slc (.slc (.int .u8))) .unit))), (.pair .ro (.pair .ro (.pair (.own (.own .ro)) .ro))), none⟩)]⟩
noncomputable def f36_l7_o0 : SkS := ⟨42, [(4, .ptr 64 []), (1, .ptr 96 [])], [(64, ⟨some 24, (.pair (.int .i64) (.pair (.int .i64) (.pair (.slc (.slc (.int .u8))) .unit))), (.pair .ro (.pair .ro (.pair (.own (.own .ro)) .ro))), none⟩), (96, ⟨some 24, (.pair (.int .i64) (.pair (.int .i64) (.pair (.slc (.slc (.int .u8))) .unit))), (.pair .ro (.pair .ro (.pair (.own (.own .ro)) .ro))), none⟩)]⟩
noncomputable def f36_l7_outs : List Way := [⟨(.exit 0), [], f36_l7_o0⟩]
abbrev f36_l7_C := ((Int × (Int × (List (List Int) × Unit))) × (Option Nat) × (Option Nat))
abbrev f36_l7_X := (Int × (Int × (Int × (List (List Int) × Unit))))
abbrev f36_l7_Y := ((Int × (Int × (List (List Int) × Unit))))
noncomputable def f36_l7_con (t : f36_l7_sk.T) : f36_l7_C := (t.2.1.1, t.2.1.2, t.2.2.1.2)
noncomputable def f36_l7_get (t : f36_l7_sk.T) : f36_l7_X := (t.1.1, t.2.2.1.1)
noncomputable def f36_l7_put (c : f36_l7_C) (x : f36_l7_X) : f36_l7_sk.T := ((x.1, ()), ((c.1, c.2.1), ((x.2, c.2.2), ())))
theorem f36_l7_pg (t : f36_l7_sk.T) : f36_l7_put (f36_l7_con t) (f36_l7_get t) = t := by kernel_rfl
noncomputable def f36_l7_w0 (c : f36_l7_C) (y : (Int × (Int × (List (List Int) × Unit)))) : f36_l7_o0.T := ((), ((c.1, c.2.1), ((y, c.2.2), ())))
noncomputable def f36_l7_out (c : f36_l7_C) (y : f36_l7_Y) : OutV f36_l7_outs := (fun y => (.inl (f36_l7_w0 c y))) y
noncomputable def f36_l7_k {R : Type} (a0 : Int) (a1 : (Int × (Int × (List (List Int) × Unit)))) (a2 : (Int × (Int × (List (List Int) × Unit)))) (kin : f36_l7_X → Option R) (k0 : (Int × (Int × (List (List Int) × Unit))) → Option R) : Option R :=
 (cond (decide (a0 < (256 : Int)))
 (cond (decide (a0 ≥ (10 : Int)))
  (cond (decide (a0 < ((List.length a2.2.2.1 : Nat) : Int)))
   (let v1 : Int := (IntKind.i64.wrap (Int.tdiv a0 (128 : Int)))
    (if (0 : Int) ≤ v1 ∧ v1 < ((List.length a2.2.2.1 : Nat) : Int) then (let v2 : Int := (Int.tmod a0 (128 : Int))
    (if (0 : Int) ≤ v2 ∧ v2 < ((List.length (List.getD a2.2.2.1 (Int.toNat v1) ([] : List Int)) : Nat) : Int) then (let v3 : Int := (IntKind.i64.wrap (a0 + (1 : Int)))
    (kin (v3, (a2.1, (a2.2.1, ((List.set a2.2.2.1 (Int.toNat v1) (List.set (List.getD a2.2.2.1 (Int.toNat v1) ([] : List Int)) (Int.toNat v2) (255 : Int))), a2.2.2.2)))))) else none)) else none))
   (let v4 : Int := (IntKind.i64.wrap (Int.tdiv a0 (128 : Int)))
    (if (0 : Int) ≤ v4 ∧ v4 < ((List.length a2.2.2.1 : Nat) : Int) then (let v5 : Int := (Int.tmod a0 (128 : Int))
    (if (0 : Int) ≤ v5 ∧ v5 < ((List.length (List.getD a2.2.2.1 (Int.toNat v4) ([] : List Int)) : Nat) : Int) then (let v6 : Int := (IntKind.i64.wrap (a0 + (1 : Int)))
    (kin (v6, (a2.1, (a2.2.1, ((List.set a2.2.2.1 (Int.toNat v4) (List.set (List.getD a2.2.2.1 (Int.toNat v4) ([] : List Int)) (Int.toNat v5) (253 : Int))), a2.2.2.2)))))) else none)) else none)))
  (let v7 : Int := (IntKind.i64.wrap (Int.tdiv a0 (128 : Int)))
   (if (0 : Int) ≤ v7 ∧ v7 < ((List.length a2.2.2.1 : Nat) : Int) then (let v8 : Int := (Int.tmod a0 (128 : Int))
   (if (0 : Int) ≤ v8 ∧ v8 < ((List.length (List.getD a2.2.2.1 (Int.toNat v7) ([] : List Int)) : Nat) : Int) then (let v9 : Int := (IntKind.i64.wrap (a0 + (1 : Int)))
   (kin (v9, (a2.1, (a2.2.1, ((List.set a2.2.2.1 (Int.toNat v7) (List.set (List.getD a2.2.2.1 (Int.toNat v7) ([] : List Int)) (Int.toNat v8) (253 : Int))), a2.2.2.2)))))) else none)) else none)))
 (k0 a2))
noncomputable def f36_l7_g (a1 : (Int × (Int × (List (List Int) × Unit)))) (x : f36_l7_X) : Option (f36_l7_X ⊕ f36_l7_Y) := f36_l7_k x.1 a1 x.2 (fun x => some (.inl x)) (fun y => some (.inr y))
noncomputable def f36_l7 (a1 : (Int × (Int × (List (List Int) × Unit)))) (x : f36_l7_X) : Option f36_l7_Y := loopO (f36_l7_g a1) x
noncomputable def f36_l7_nd : Node := { nils := [], sk := f36_l7_sk, outs := f36_l7_outs, Y := f36_l7_Y, L := fun t => f36_l7 ((f36_l7_con t).1) (f36_l7_get t), out := fun t y => f36_l7_out (f36_l7_con t) y, disp := fun t y K => (fun y => K (.exit 0) (f36_l7_o0.fill (f36_l7_w0 (f36_l7_con t) y))) y }
noncomputable def f36_fx : Fx := { E := env, T := [(21, f21_sm)], H := [(6, (.pair .ro (.pair .ro (.pair (.own (.own .ro)) .ro)))), (4, (.pair .ro (.pair .ro (.pair (.own (.own .ro)) .ro))))], O := [], nodes := [((true, 7), f36_l7_nd)] }
noncomputable def f36_l7_b : Code := (loops f36_code).getD 0 .skip
theorem f36_l7_r (c : f36_l7_C) (x : f36_l7_X) : roundS f36_fx f36_l7_b f36_l7_nd (f36_l7_put c x) = f36_l7_k x.1 c.1 x.2 (fun x => some (.inl (f36_l7_put c x))) (fun y => some (.inr (.inl (f36_l7_w0 c y)))) := by kernel_rfl
theorem f36_l7_n {R : Type} (a0 : Int) (a1 : (Int × (Int × (List (List Int) × Unit)))) (a2 : (Int × (Int × (List (List Int) × Unit)))) (kin : f36_l7_X → Option R) (k0 : (Int × (Int × (List (List Int) × Unit))) → Option R) : f36_l7_k a0 a1 a2 kin k0 = (f36_l7_g a1 (a0, a2)).bind (Sum.elim kin k0) := by
  simp only [f36_l7_g, f36_l7_k, cond_bind, ite_bind, bind_bind, some_bind, none_bind, elim_bind, Sum.elim_inl, Sum.elim_inr]
theorem f36_l7_ok : LoopOk f36_fx f36_l7_b f36_l7_nd := loop_ok f36_l7_con f36_l7_get f36_l7_put f36_l7_pg (fun c => f36_l7_g c.1) f36_l7_out (fun t y => rfl) (fun t y K => rfl) (fun c x => by
  refine (f36_l7_r c x).trans ((f36_l7_n _ _ _ _ _).trans ?_)
  first
  | rfl
  | congr 1
    funext s
    rcases s with s | s <;> rfl) (fun t => rfl)
noncomputable def f36_k {R : Type} (a0 : Int) (a1 : Int) (k : ((Int × (Int × (List (List Int) × Unit))) × Int × Unit) × (Unit) → Option R) : Option R :=
 ((f21 a0 a1).bind fun r0 =>
 (cond (r0.1.2.1 != (0 : Int))
 (k ((((0 : Int), ((0 : Int), ([], ()))), (r0.1.2.1, ())), ()))
 (cond (decide (((List.length r0.1.1.2.2.1 : Nat) : Int) ≤ (10 : Int)))
  (k ((((0 : Int), ((0 : Int), ([], ()))), ((13 : Int), ())), ()))
  ((f36_l7 ((0 : Int), ((0 : Int), (([] : List (List Int)), ()))) ((0 : Int), r0.1.1)).bind fun y10 =>
   (k ((y10, ((0 : Int), ())), ()))))))
noncomputable def f36 (a0 : Int) (a1 : Int) : Option (((Int × (Int × (List (List Int) × Unit))) × Int × Unit) × (Unit)) := f36_k a0 a1 some
noncomputable def f36_sm : Sm := ⟨[.ro (.int .i64), .ro (.int .i64)], [((.pair (.int .i64) (.pair (.int .i64) (.pair (.slc (.slc (.int .u8))) .unit))), (.pair .ro (.pair .ro (.pair (.own (.own .ro)) .ro)))), ((.int .i64), .ro)], fun x => f36 x.1 x.2.1⟩
theorem f36_m (x : ArgT [.ro (.int .i64), .ro (.int .i64)]) : codeS f36_fx f36_code (start [.ro (.int .i64), .ro (.int .i64)] [] x 49) (finK env [.cell 4 24, .tmp 5] [.ro (.int .i64), .ro (.int .i64)] [((.pair (.int .i64) (.pair (.int .i64) (.pair (.slc (.slc (.int .u8))) .unit))), (.pair .ro (.pair .ro (.pair (.own (.own .ro)) .ro)))), ((.int .i64), .ro)]) = f36_k x.1 x.2.1 (fun r => some (r, [])) := by kernel_rfl
theorem f36_n {R : Type} (a0 : Int) (a1 : Int) (k : ((Int × (Int × (List (List Int) × Unit))) × Int × Unit) × (Unit) → Option R) : f36_k a0 a1 k = (f36 a0 a1).bind k := by
  simp only [f36, f36_k, cond_bind, ite_bind, bind_bind, some_bind, none_bind, elim_bind]
theorem f36_ok : SmOk Try.prog 36 f36_sm :=
  sum_of (c := f36_fx) (fn := Try.f36) (code := f36_code) (sm := f36_sm) mixed (env_ok env_envB) (TabsOk.all ⟨f21_c, trivial⟩) Try.func36 (by kernel_rfl)
   ((LoopsOk.of (l := [f36_l7_b]) (by kernel_rfl) ⟨node_is (by kernel_rfl) f36_l7_ok, trivial⟩))
   (no_tails (by kernel_rfl))
   (fun ks x hl => by
    have hk : ks = [] := List.length_eq_zero_iff.1 hl
    subst hk
    exact (f36_m x).trans (f36_n _ _ _))
theorem f36_c : CalOk Try.prog 36 f36_sm := .inl ⟨f36_ok, ⟨Try.f36, Try.func36, by kernel_rfl, by kernel_rfl⟩⟩
/-! bakelite/bakelaw2.chainBegun -/
noncomputable def f38_code : Code := (Try.f38.body).getD .skip
noncomputable def f38_fx : Fx := { E := env, T := [(36, f36_sm), (61, f61_sm)], H := [], O := [], nodes := [] }
noncomputable def f38_k {R : Type} (k : (Bool × Unit) × (Unit) → Option R) : Option R :=
 ((f36 (4 : Int) (5 : Int)).bind fun r0 =>
 ((f61 r0.1.1).bind fun r1 =>
 (cond (r0.1.2.1 == (0 : Int))
 (cond (r1.1.2.1 == (0 : Int))
  (k (((r1.1.1 == (10 : Int)), ()), ()))
  (k ((false, ()), ())))
 (k ((false, ()), ())))))
noncomputable def f38 : Option ((Bool × Unit) × (Unit)) := f38_k some
noncomputable def f38_sm : Sm := ⟨[], [(.bool, .ro)], fun x => f38⟩
theorem f38_m (x : ArgT []) : codeS f38_fx f38_code (start [] [] x 24) (finK env [.tmp 0] [] [(.bool, .ro)]) = f38_k (fun r => some (r, [])) := by kernel_rfl
theorem f38_n {R : Type} (k : (Bool × Unit) × (Unit) → Option R) : f38_k k = (f38).bind k := by
  simp only [f38, f38_k, cond_bind, ite_bind, bind_bind, some_bind, none_bind, elim_bind]
theorem f38_ok : SmOk Try.prog 38 f38_sm :=
  sum_of (c := f38_fx) (fn := Try.f38) (code := f38_code) (sm := f38_sm) mixed (env_ok env_envB) (TabsOk.all ⟨f36_c, f61_c, trivial⟩) Try.func38 (by kernel_rfl)
   ((LoopsOk.of (l := []) (by kernel_rfl) trivial))
   (no_tails (by kernel_rfl))
   (fun ks x hl => by
    have hk : ks = [] := List.length_eq_zero_iff.1 hl
    subst hk
    exact (f38_m x).trans (f38_n _))
theorem f38_c : CalOk Try.prog 38 f38_sm := .inl ⟨f38_ok, ⟨Try.f38, Try.func38, by kernel_rfl, by kernel_rfl⟩⟩
/-! bakelite/bakeref2.ChainRoom -/
noncomputable def f63_code : Code := (Try.f63.body).getD .skip
noncomputable def f63_fx : Fx := { E := env, T := [(116, f116_sm), (121, f121_sm)], H := [], O := [], nodes := [] }
noncomputable def f63_k {R : Type} (a0 : (Int × (Int × (List (List Int) × Unit)))) (k : (Int × Unit) × (Unit) → Option R) : Option R :=
 ((f116 a0).bind fun r0 =>
 ((f121 r0.1.2.1 [(255 : Int)]).bind fun r1 =>
 (k ((r1.1.1, ()), ()))))
noncomputable def f63 (a0 : (Int × (Int × (List (List Int) × Unit)))) : Option ((Int × Unit) × (Unit)) := f63_k a0 some
noncomputable def f63_sm : Sm := ⟨[.ro (.pair (.int .i64) (.pair (.int .i64) (.pair (.slc (.slc (.int .u8))) .unit)))], [((.int .i64), .ro)], fun x => f63 x.1⟩
theorem f63_m (x : ArgT [.ro (.pair (.int .i64) (.pair (.int .i64) (.pair (.slc (.slc (.int .u8))) .unit)))]) : codeS f63_fx f63_code (start [.ro (.pair (.int .i64) (.pair (.int .i64) (.pair (.slc (.slc (.int .u8))) .unit)))] [] x 15) (finK env [.tmp 2] [.ro (.pair (.int .i64) (.pair (.int .i64) (.pair (.slc (.slc (.int .u8))) .unit)))] [((.int .i64), .ro)]) = f63_k x.1 (fun r => some (r, [])) := by kernel_rfl
theorem f63_n {R : Type} (a0 : (Int × (Int × (List (List Int) × Unit)))) (k : (Int × Unit) × (Unit) → Option R) : f63_k a0 k = (f63 a0).bind k := by
  simp only [f63, f63_k, cond_bind, ite_bind, bind_bind, some_bind, none_bind, elim_bind]
theorem f63_ok : SmOk Try.prog 63 f63_sm :=
  sum_of (c := f63_fx) (fn := Try.f63) (code := f63_code) (sm := f63_sm) mixed (env_ok env_envB) (TabsOk.all ⟨f116_c, f121_c, trivial⟩) Try.func63 (by kernel_rfl)
   ((LoopsOk.of (l := []) (by kernel_rfl) trivial))
   (no_tails (by kernel_rfl))
   (fun ks x hl => by
    have hk : ks = [] := List.length_eq_zero_iff.1 hl
    subst hk
    exact (f63_m x).trans (f63_n _ _))
theorem f63_c : CalOk Try.prog 63 f63_sm := .inl ⟨f63_ok, ⟨Try.f63, Try.func63, by kernel_rfl, by kernel_rfl⟩⟩
/-! bakelite/bakelaw2.ChainChecks -/
noncomputable def f12_code : Code := (Try.f12.body).getD .skip
noncomputable def f12_fx : Fx := { E := env, T := [(60, f60_sm), (61, f61_sm), (38, f38_sm), (62, f62_sm), (63, f63_sm)], H := [], O := [], nodes := [] }
noncomputable def f12_k {R : Type} (a0 : (Int × (Int × (List (List Int) × Unit)))) (k : (Bool × Unit) × (Unit) → Option R) : Option R :=
 ((f60 a0).bind fun r0 =>
 ((f61 a0).bind fun r1 =>
 ((f38).bind fun r2 =>
 (cond (!r2.1.1)
 (k ((false, ()), ()))
 ((f62 a0).bind fun r3 =>
  (cond (r3.1.1 != r0.1.1)
  (k ((false, ()), ()))
  (cond (r1.1.2.1 != r0.1.1)
   (k ((false, ()), ()))
   (cond (r0.1.1 != (0 : Int))
    (k (((r1.1.1 == (0 : Int)), ()), ()))
    ((f63 a0).bind fun r4 =>
     (k (((r1.1.1 == r4.1.1), ()), ())))))))))))
noncomputable def f12 (a0 : (Int × (Int × (List (List Int) × Unit)))) : Option ((Bool × Unit) × (Unit)) := f12_k a0 some
noncomputable def f12_sm : Sm := ⟨[.ro (.pair (.int .i64) (.pair (.int .i64) (.pair (.slc (.slc (.int .u8))) .unit)))], [(.bool, .ro)], fun x => f12 x.1⟩
theorem f12_m (x : ArgT [.ro (.pair (.int .i64) (.pair (.int .i64) (.pair (.slc (.slc (.int .u8))) .unit)))]) : codeS f12_fx f12_code (start [.ro (.pair (.int .i64) (.pair (.int .i64) (.pair (.slc (.slc (.int .u8))) .unit)))] [] x 34) (finK env [.tmp 2] [.ro (.pair (.int .i64) (.pair (.int .i64) (.pair (.slc (.slc (.int .u8))) .unit)))] [(.bool, .ro)]) = f12_k x.1 (fun r => some (r, [])) := by kernel_rfl
theorem f12_n {R : Type} (a0 : (Int × (Int × (List (List Int) × Unit)))) (k : (Bool × Unit) × (Unit) → Option R) : f12_k a0 k = (f12 a0).bind k := by
  simp only [f12, f12_k, cond_bind, ite_bind, bind_bind, some_bind, none_bind, elim_bind]
theorem f12_ok : SmOk Try.prog 12 f12_sm :=
  sum_of (c := f12_fx) (fn := Try.f12) (code := f12_code) (sm := f12_sm) mixed (env_ok env_envB) (TabsOk.all ⟨f60_c, f61_c, f38_c, f62_c, f63_c, trivial⟩) Try.func12 (by kernel_rfl)
   ((LoopsOk.of (l := []) (by kernel_rfl) trivial))
   (no_tails (by kernel_rfl))
   (fun ks x hl => by
    have hk : ks = [] := List.length_eq_zero_iff.1 hl
    subst hk
    exact (f12_m x).trans (f12_n _ _))
theorem f12_c : CalOk Try.prog 12 f12_sm := .inl ⟨f12_ok, ⟨Try.f12, Try.func12, by kernel_rfl, by kernel_rfl⟩⟩
end Go.Proofs.Ytlgbhaigpecdoaa.V
