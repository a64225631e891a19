/- Printed. -/
import Derived.Test.YtmfjebpdkgbggaaVExt
import Derived.Test.YtmfjebpdkgbggaaVImgD
set_option linter.unusedVariables false
set_option linter.unusedSimpArgs false
set_option maxRecDepth 100000
namespace Go.Proofs.Ytmfjebpdkgbggaa.V
open Go
abbrev Qv0 : Type := Int × (Int × (List (List Int) × Unit))
abbrev Qv1 : Type := Int × (ByteArray × (Int × (List Int × Unit)))
abbrev Qt2 : Ty := .pair (.int .i64) (.pair (.int .i64) (.pair (.slc (.slc (.int .u8))) .unit))
abbrev Qt3 : Md := .pair .ro (.pair .ro (.pair (.own (.own .ro)) .ro))
abbrev Qt4 : Ty := .pair (.int .i64) (.pair .str (.pair (.int .i64) (.pair (.slc (.int .i64)) .unit)))
abbrev Qt5 : Md := .pair .ro (.pair .ro (.pair .ro (.pair (.own .ro) .ro)))
noncomputable def f51_code : Code := (Try.f51.body).getD .skip
noncomputable def f51_l6_sk : SkS := ⟨7, [(33, .con (.slc (.slc (.int .u8)))), (0, .con (.int .i64)), (0, .con (.int .i64))], []⟩
noncomputable def f51_l6_o0 : SkS := ⟨40, [(2, .con (.int .i64))], []⟩
noncomputable def f51_l6_o1 : SkS := ⟨43, [], []⟩
noncomputable def f51_l6_outs : List Way := [⟨.ret, [], f51_l6_o0⟩, ⟨(.exit 0), [], f51_l6_o1⟩]
abbrev f51_l6_C := (List (List Int) × Int)
abbrev f51_l6_X := Int
abbrev f51_l6_Y := (Unit) ⊕ (Unit)
noncomputable def f51_l6_con (t : f51_l6_sk.T) : f51_l6_C := (t.1.1, t.1.2.1)
noncomputable def f51_l6_get (t : f51_l6_sk.T) : f51_l6_X := t.1.2.2.1
noncomputable def f51_l6_put (c : f51_l6_C) (x : f51_l6_X) : f51_l6_sk.T := ((c.1, (c.2, (x, ()))), ())
theorem f51_l6_pg (t : f51_l6_sk.T) : f51_l6_put (f51_l6_con t) (f51_l6_get t) = t := by kernel_rfl
noncomputable def f51_l6_w0 (c : f51_l6_C) (y : Unit) : f51_l6_o0.T := (((3 : Int), ()), ())
noncomputable def f51_l6_w1 (c : f51_l6_C) (y : Unit) : f51_l6_o1.T := ((), ())
noncomputable def f51_l6_out (c : f51_l6_C) (y : f51_l6_Y) : OutV f51_l6_outs := (Sum.elim (fun y => (.inl (f51_l6_w0 c y))) (fun y => (.inr (.inl (f51_l6_w1 c y))))) y
noncomputable def f51_l6_k {R : Type} (a0 : List (List Int)) (a1 : Int) (a2 : Int) (kin : f51_l6_X → Option R) (k0 : Unit → Option R) (k1 : Unit → Option R) : Option R :=
 (cond (decide (a2 < a1))
 (if (0 : Int) ≤ a2 ∧ a2 < ((List.length a0 : Nat) : Int) then (cond (((List.length (List.getD a0 (Int.toNat a2) ([] : List Int)) : Nat) : Int) != (128 : Int))
  (k0 ())
  (let v1 : Int := (IntKind.i64.wrap (a2 + (1 : Int)))
   (kin v1))) else none)
 (k1 ()))
noncomputable def f51_l6_g (a0 : List (List Int)) (a1 : Int) (x : f51_l6_X) : Option (f51_l6_X ⊕ f51_l6_Y) := f51_l6_k a0 a1 x (fun x => some (.inl x)) (fun y => some (.inr (.inl y))) (fun y => some (.inr (.inr y)))
noncomputable def f51_l6 (a0 : List (List Int)) (a1 : Int) (x : f51_l6_X) : Option f51_l6_Y := loopO (f51_l6_g a0 a1) x
noncomputable def f51_l6_nd : Node := { nils := [], sk := f51_l6_sk, outs := f51_l6_outs, Y := f51_l6_Y, L := fun t => f51_l6 ((f51_l6_con t).1) ((f51_l6_con t).2) (f51_l6_get t), out := fun t y => f51_l6_out (f51_l6_con t) y, disp := fun t y K => (Sum.elim (fun y => K .ret (f51_l6_o0.fill (f51_l6_w0 (f51_l6_con t) y))) (fun y => K (.exit 0) (f51_l6_o1.fill (f51_l6_w1 (f51_l6_con t) y)))) y }
noncomputable def f51_fx : Fx := { E := env, T := [], H := [], O := [], nodes := [((true, 6), f51_l6_nd)] }
noncomputable def f51_l6_b : Code := (loops f51_code).getD 0 .skip
theorem f51_l6_r (c : f51_l6_C) (x : f51_l6_X) : roundS f51_fx f51_l6_b f51_l6_nd (f51_l6_put c x) = f51_l6_k c.1 c.2 x (fun x => some (.inl (f51_l6_put c x))) (fun y => some (.inr (.inl (f51_l6_w0 c y)))) (fun y => some (.inr (.inr (.inl (f51_l6_w1 c y))))) := by kernel_rfl
theorem f51_l6_n {R : Type} (a0 : List (List Int)) (a1 : Int) (a2 : Int) (kin : f51_l6_X → Option R) (k0 : Unit → Option R) (k1 : Unit → Option R) : f51_l6_k a0 a1 a2 kin k0 k1 = (f51_l6_g a0 a1 a2).bind (Sum.elim kin (Sum.elim k0 k1)) := by
  simp only [f51_l6_g, f51_l6_k, cond_bind, ite_bind, bind_bind, some_bind, none_bind, elim_bind, whenS_bind, Sum.elim_inl, Sum.elim_inr]
theorem f51_l6_ok : LoopOk f51_fx f51_l6_b f51_l6_nd := loop_ok f51_l6_con f51_l6_get f51_l6_put f51_l6_pg (fun c => f51_l6_g c.1 c.2) f51_l6_out (fun t y => rfl) (by intro R t y K; rcases y with y | y <;> rfl) (fun c x => by
  refine (f51_l6_r c x).trans ((f51_l6_n _ _ _ _ _ _).trans ?_)
  first
  | rfl
  | congr 1
    funext s
    rcases s with s | s | s <;> rfl) (fun t => rfl)
noncomputable def f51_k {R : Type} (a0 : Qv0) (k : (Int × Unit) × (Unit) → Option R) : Option R :=
 (cond (decide (a0.1 < (1 : Int)))
 (k (((1 : Int), ()), ()))
 (cond (decide (a0.1 > (20 : Int)))
  (k (((1 : Int), ()), ()))
  (cond (decide (a0.2.1 < (1 : Int)))
   (k (((1 : Int), ()), ()))
   (cond (decide (a0.2.1 > (12 : Int)))
    (k (((1 : Int), ()), ()))
    (let v0 : Int := (IntKind.i64.wrap (a0.1 * a0.2.1))
     (cond (((List.length a0.2.2.1 : Nat) : Int) != v0)
     (k (((3 : Int), ()), ()))
     ((f51_l6 a0.2.2.1 ((List.length a0.2.2.1 : Nat) : Int) (0 : Int)).bind fun y2 =>
      ((Sum.elim (fun z3 =>
      (k (((3 : Int), ()), ())))
      (fun z4 =>
      (k (((0 : Int), ()), ())))) y2))))))))
noncomputable def f51 (a0 : Qv0) : Option ((Int × Unit) × (Unit)) := f51_k a0 some
noncomputable def f51_sm : Sm := { ps := [.ro Qt2], rs := [((.int .i64), .ro)], F := fun x => f51 x.1 }
theorem f51_m (x : ArgT [.ro Qt2]) : codeS f51_fx f51_code (start [.ro Qt2] [] x 43) (finK env [.tmp 2] [.ro Qt2] [((.int .i64), .ro)]) = f51_k x.1 (fun r => some (r, [])) := by kernel_rfl
theorem f51_n {R : Type} (a0 : Qv0) (k : (Int × Unit) × (Unit) → Option R) : f51_k a0 k = (f51 a0).bind k := by
  simp only [f51, f51_k, cond_bind, ite_bind, bind_bind, some_bind, none_bind, elim_bind, whenS_bind]
theorem f51_ok : SmOk Try.prog 51 f51_sm :=
  sum_of (c := f51_fx) (fn := Try.f51) (code := f51_code) (sm := f51_sm) mixed (env_ok env_envB) (TabsOk.all trivial) Try.func51 (by kernel_rfl)
   ((LoopsOk.of (l := [f51_l6_b]) (by kernel_rfl) ⟨node_is (by kernel_rfl) f51_l6_ok, trivial⟩))
   (no_tails (by kernel_rfl)) rfl
   (fun ks x hl => by
    have hk : ks = [] := List.length_eq_zero_iff.1 hl
    subst hk
    exact (f51_m x).trans (f51_n _ _))
theorem f51_c : CalOk Try.prog 51 f51_sm := .inl ⟨f51_ok, ⟨Try.f51, Try.func51, by kernel_rfl, by kernel_rfl⟩⟩
noncomputable def f42_code : Code := (Try.f42.body).getD .skip
noncomputable def f42_fx : Fx := { E := env, T := [], H := [], O := [], nodes := [] }
noncomputable def f42_k {R : Type} (a0 : Qv0) (a1 : Int) (k : (Int × Unit) × (Unit) → Option R) : Option R :=
 (let v0 : Int := (IntKind.i64.wrap (Int.tdiv a1 (128 : Int)))
 (if (0 : Int) ≤ v0 ∧ v0 < ((List.length a0.2.2.1 : Nat) : Int) then (let v1 : Int := (Int.tmod a1 (128 : Int))
 (if (0 : Int) ≤ v1 ∧ v1 < ((List.length (List.getD a0.2.2.1 (Int.toNat v0) ([] : List Int)) : Nat) : Int) then (let v2 : Int := (IntKind.i64.wrap (List.getD (List.getD a0.2.2.1 (Int.toNat v0) ([] : List Int)) (Int.toNat v1) (0 : Int)))
 (k ((v2, ()), ()))) else none)) else none))
noncomputable def f42 (a0 : Qv0) (a1 : Int) : Option ((Int × Unit) × (Unit)) := f42_k a0 a1 some
noncomputable def f42_sm : Sm := { ps := [.ro Qt2, .ro (.int .i64)], rs := [((.int .i64), .ro)], F := fun x => f42 x.1 x.2.1 }
theorem f42_m (x : ArgT [.ro Qt2, .ro (.int .i64)]) : codeS f42_fx f42_code (start [.ro Qt2, .ro (.int .i64)] [] x 16) (finK env [.tmp 4] [.ro Qt2, .ro (.int .i64)] [((.int .i64), .ro)]) = f42_k x.1 x.2.1 (fun r => some (r, [])) := by kernel_rfl
theorem f42_n {R : Type} (a0 : Qv0) (a1 : Int) (k : (Int × Unit) × (Unit) → Option R) : f42_k a0 a1 k = (f42 a0 a1).bind k := by
  simp only [f42, f42_k, cond_bind, ite_bind, bind_bind, some_bind, none_bind, elim_bind, whenS_bind]
theorem f42_ok : SmOk Try.prog 42 f42_sm :=
  sum_of (c := f42_fx) (fn := Try.f42) (code := f42_code) (sm := f42_sm) mixed (env_ok env_envB) (TabsOk.all trivial) Try.func42 (by kernel_rfl)
   ((LoopsOk.of (l := []) (by kernel_rfl) trivial))
   (no_tails (by kernel_rfl)) rfl
   (fun ks x hl => by
    have hk : ks = [] := List.length_eq_zero_iff.1 hl
    subst hk
    exact (f42_m x).trans (f42_n _ _ _))
theorem f42_c : CalOk Try.prog 42 f42_sm := .inl ⟨f42_ok, ⟨Try.f42, Try.func42, by kernel_rfl, by kernel_rfl⟩⟩
noncomputable def f38_code : Code := (Try.f38.body).getD .skip
noncomputable def f38_fx : Fx := { E := env, T := [], H := [], O := [], nodes := [] }
noncomputable def f38_k {R : Type} (a0 : Qv0) (a1 : Int) (k : (List Int × Unit) × (Unit) → Option R) : Option R :=
 (let v0 : Int := (IntKind.i64.wrap (Int.tdiv a1 (4 : Int)))
 (let v1 : Int := (IntKind.i64.wrap ((2 : Int) + v0))
 (if (0 : Int) ≤ v1 ∧ v1 < ((List.length a0.2.2.1 : Nat) : Int) then (let v2 : Int := (IntKind.i64.wrap ((Int.tmod a1 (4 : Int)) * (32 : Int)))
 (let v3 : Int := (IntKind.i64.wrap ((Int.tmod a1 (4 : Int)) * (32 : Int)))
 (let v4 : Int := (IntKind.i64.wrap (v3 + (32 : Int)))
 (if (0 : Int) ≤ v2 ∧ v2 ≤ v4 ∧ v4 ≤ ((List.length (List.getD a0.2.2.1 (Int.toNat v1) ([] : List Int)) : Nat) : Int) then (k (((List.take ((Int.toNat v4) - (Int.toNat v2)) (List.drop (Int.toNat v2) (List.getD a0.2.2.1 (Int.toNat v1) ([] : List Int)))), ()), ())) else none)))) else none)))
noncomputable def f38 (a0 : Qv0) (a1 : Int) : Option ((List Int × Unit) × (Unit)) := f38_k a0 a1 some
noncomputable def f38_sm : Sm := { ps := [.ro Qt2, .ro (.int .i64)], rs := [((.slc (.int .u8)), .ro)], F := fun x => f38 x.1 x.2.1 }
theorem f38_m (x : ArgT [.ro Qt2, .ro (.int .i64)]) : codeS f38_fx f38_code (start [.ro Qt2, .ro (.int .i64)] [] x 22) (finK env [.tmp 4] [.ro Qt2, .ro (.int .i64)] [((.slc (.int .u8)), .ro)]) = f38_k x.1 x.2.1 (fun r => some (r, [])) := by kernel_rfl
theorem f38_n {R : Type} (a0 : Qv0) (a1 : Int) (k : (List Int × Unit) × (Unit) → Option R) : f38_k a0 a1 k = (f38 a0 a1).bind k := by
  simp only [f38, f38_k, cond_bind, ite_bind, bind_bind, some_bind, none_bind, elim_bind, whenS_bind]
theorem f38_ok : SmOk Try.prog 38 f38_sm :=
  sum_of (c := f38_fx) (fn := Try.f38) (code := f38_code) (sm := f38_sm) mixed (env_ok env_envB) (TabsOk.all trivial) Try.func38 (by kernel_rfl)
   ((LoopsOk.of (l := []) (by kernel_rfl) trivial))
   (no_tails (by kernel_rfl)) rfl
   (fun ks x hl => by
    have hk : ks = [] := List.length_eq_zero_iff.1 hl
    subst hk
    exact (f38_m x).trans (f38_n _ _ _))
theorem f38_c : CalOk Try.prog 38 f38_sm := .inl ⟨f38_ok, ⟨Try.f38, Try.func38, by kernel_rfl, by kernel_rfl⟩⟩
noncomputable def f97_code : Code := (Try.f97.body).getD .skip
noncomputable def f97_fx : Fx := { E := env, T := [], H := [], O := [], nodes := [] }
noncomputable def f97_k {R : Type} (a0 : Int) (k : (Bool × Unit) × (Unit) → Option R) : Option R :=
 (k (((a0 != (0 : Int)), ()), ()))
noncomputable def f97 (a0 : Int) : Option ((Bool × Unit) × (Unit)) := f97_k a0 some
noncomputable def f97_sm : Sm := { ps := [.ro (.int .u8)], rs := [(.bool, .ro)], F := fun x => f97 x.1 }
theorem f97_m (x : ArgT [.ro (.int .u8)]) : codeS f97_fx f97_code (start [.ro (.int .u8)] [] x 5) (finK env [.tmp 2] [.ro (.int .u8)] [(.bool, .ro)]) = f97_k x.1 (fun r => some (r, [])) := by kernel_rfl
theorem f97_n {R : Type} (a0 : Int) (k : (Bool × Unit) × (Unit) → Option R) : f97_k a0 k = (f97 a0).bind k := by
  simp only [f97, f97_k, cond_bind, ite_bind, bind_bind, some_bind, none_bind, elim_bind, whenS_bind]
theorem f97_ok : SmOk Try.prog 97 f97_sm :=
  sum_of (c := f97_fx) (fn := Try.f97) (code := f97_code) (sm := f97_sm) mixed (env_ok env_envB) (TabsOk.all trivial) Try.func97 (by kernel_rfl)
   ((LoopsOk.of (l := []) (by kernel_rfl) trivial))
   (no_tails (by kernel_rfl)) rfl
   (fun ks x hl => by
    have hk : ks = [] := List.length_eq_zero_iff.1 hl
    subst hk
    exact (f97_m x).trans (f97_n _ _))
theorem f97_c : CalOk Try.prog 97 f97_sm := .inl ⟨f97_ok, ⟨Try.f97, Try.func97, by kernel_rfl, by kernel_rfl⟩⟩
noncomputable def f130_code : Code := (Try.f130.body).getD .skip
noncomputable def f130_l2_sk : SkS := ⟨10, [(0, .con (.slc (.int .u8))), (0, .fn 97 (.tnil)), (5, .con (.int .i64)), (0, .con (.int .i64))], []⟩
noncomputable def f130_l2_o0 : SkS := ⟨14, [(4, .con (.int .i64))], []⟩
noncomputable def f130_l2_o1 : SkS := ⟨19, [], []⟩
noncomputable def f130_l2_outs : List Way := [⟨.ret, [], f130_l2_o0⟩, ⟨(.exit 0), [], f130_l2_o1⟩]
abbrev f130_l2_C := (List Int × Int)
abbrev f130_l2_X := Int
abbrev f130_l2_Y := (Int) ⊕ (Unit)
noncomputable def f130_l2_con (t : f130_l2_sk.T) : f130_l2_C := (t.1.1, t.1.2.2.1)
noncomputable def f130_l2_get (t : f130_l2_sk.T) : f130_l2_X := t.1.2.2.2.1
noncomputable def f130_l2_put (c : f130_l2_C) (x : f130_l2_X) : f130_l2_sk.T := ((c.1, ((), (c.2, (x, ())))), ())
theorem f130_l2_pg (t : f130_l2_sk.T) : f130_l2_put (f130_l2_con t) (f130_l2_get t) = t := by kernel_rfl
noncomputable def f130_l2_w0 (c : f130_l2_C) (y : Int) : f130_l2_o0.T := ((y, ()), ())
noncomputable def f130_l2_w1 (c : f130_l2_C) (y : Unit) : f130_l2_o1.T := ((), ())
noncomputable def f130_l2_out (c : f130_l2_C) (y : f130_l2_Y) : OutV f130_l2_outs := (Sum.elim (fun y => (.inl (f130_l2_w0 c y))) (fun y => (.inr (.inl (f130_l2_w1 c y))))) y
noncomputable def f130_l2_k {R : Type} (a0 : List Int) (a1 : Int) (a2 : Int) (kin : f130_l2_X → Option R) (k0 : Int → Option R) (k1 : Unit → Option R) : Option R :=
 (cond (decide (a2 < a1))
 (if (0 : Int) ≤ a2 ∧ a2 < ((List.length a0 : Nat) : Int) then ((f97 (List.getD a0 (Int.toNat a2) (0 : Int))).bind fun r0 =>
  (cond r0.1.1
  (k0 a2)
  (let v1 : Int := (IntKind.i64.wrap (a2 + (1 : Int)))
   (kin v1)))) else none)
 (k1 ()))
noncomputable def f130_l2_g (a0 : List Int) (a1 : Int) (x : f130_l2_X) : Option (f130_l2_X ⊕ f130_l2_Y) := f130_l2_k a0 a1 x (fun x => some (.inl x)) (fun y => some (.inr (.inl y))) (fun y => some (.inr (.inr y)))
noncomputable def f130_l2 (a0 : List Int) (a1 : Int) (x : f130_l2_X) : Option f130_l2_Y := loopO (f130_l2_g a0 a1) x
noncomputable def f130_l2_nd : Node := { nils := [], sk := f130_l2_sk, outs := f130_l2_outs, Y := f130_l2_Y, L := fun t => f130_l2 ((f130_l2_con t).1) ((f130_l2_con t).2) (f130_l2_get t), out := fun t y => f130_l2_out (f130_l2_con t) y, disp := fun t y K => (Sum.elim (fun y => K .ret (f130_l2_o0.fill (f130_l2_w0 (f130_l2_con t) y))) (fun y => K (.exit 0) (f130_l2_o1.fill (f130_l2_w1 (f130_l2_con t) y)))) y }
noncomputable def f130_fx : Fx := { E := env, T := [(97, f97_sm)], H := [], O := [], nodes := [((true, 2), f130_l2_nd)] }
noncomputable def f130_l2_b : Code := (loops f130_code).getD 0 .skip
theorem f130_l2_r (c : f130_l2_C) (x : f130_l2_X) : roundS f130_fx f130_l2_b f130_l2_nd (f130_l2_put c x) = f130_l2_k c.1 c.2 x (fun x => some (.inl (f130_l2_put c x))) (fun y => some (.inr (.inl (f130_l2_w0 c y)))) (fun y => some (.inr (.inr (.inl (f130_l2_w1 c y))))) := by kernel_rfl
theorem f130_l2_n {R : Type} (a0 : List Int) (a1 : Int) (a2 : Int) (kin : f130_l2_X → Option R) (k0 : Int → Option R) (k1 : Unit → Option R) : f130_l2_k a0 a1 a2 kin k0 k1 = (f130_l2_g a0 a1 a2).bind (Sum.elim kin (Sum.elim k0 k1)) := by
  simp only [f130_l2_g, f130_l2_k, cond_bind, ite_bind, bind_bind, some_bind, none_bind, elim_bind, whenS_bind, Sum.elim_inl, Sum.elim_inr]
theorem f130_l2_ok : LoopOk f130_fx f130_l2_b f130_l2_nd := loop_ok f130_l2_con f130_l2_get f130_l2_put f130_l2_pg (fun c => f130_l2_g c.1 c.2) f130_l2_out (fun t y => rfl) (by intro R t y K; rcases y with y | y <;> rfl) (fun c x => by
  refine (f130_l2_r c x).trans ((f130_l2_n _ _ _ _ _ _).trans ?_)
  first
  | rfl
  | congr 1
    funext s
    rcases s with s | s | s <;> rfl) (fun t => rfl)
noncomputable def f130_k {R : Type} (a0 : List Int) (a1 : (Unit)) (k : (Int × Unit) × (Unit) → Option R) : Option R :=
 ((f130_l2 a0 ((List.length a0 : Nat) : Int) (0 : Int)).bind fun y2 =>
 ((Sum.elim (fun z3 =>
 (k ((z3, ()), ())))
 (fun z4 =>
 (k (((-1 : Int), ()), ())))) y2))
noncomputable def f130 (a0 : List Int) (a1 : (Unit)) : Option ((Int × Unit) × (Unit)) := f130_k a0 a1 some
noncomputable def f130_sm : Sm := { ps := [.ro (.slc (.int .u8)), .fn 97 []], rs := [((.int .i64), .ro)], F := fun x => f130 x.1 x.2.1 }
theorem f130_m (x : ArgT [.ro (.slc (.int .u8)), .fn 97 []]) : codeS f130_fx f130_code (start [.ro (.slc (.int .u8)), .fn 97 []] [] x 19) (finK env [.tmp 4] [.ro (.slc (.int .u8)), .fn 97 []] [((.int .i64), .ro)]) = f130_k x.1 x.2.1 (fun r => some (r, [])) := by kernel_rfl
theorem f130_n {R : Type} (a0 : List Int) (a1 : (Unit)) (k : (Int × Unit) × (Unit) → Option R) : f130_k a0 a1 k = (f130 a0 a1).bind k := by
  simp only [f130, f130_k, cond_bind, ite_bind, bind_bind, some_bind, none_bind, elim_bind, whenS_bind]
theorem f130_ok : SmOk Try.prog 130 f130_sm :=
  sum_of (c := f130_fx) (fn := Try.f130) (code := f130_code) (sm := f130_sm) mixed (env_ok env_envB) (TabsOk.all ⟨f97_c, trivial⟩) Try.func130 (by kernel_rfl)
   ((LoopsOk.of (l := [f130_l2_b]) (by kernel_rfl) ⟨node_is (by kernel_rfl) f130_l2_ok, trivial⟩))
   (no_tails (by kernel_rfl)) rfl
   (fun ks x hl => by
    have hk : ks = [] := List.length_eq_zero_iff.1 hl
    subst hk
    exact (f130_m x).trans (f130_n _ _ _))
theorem f130_c : CalOk Try.prog 130 f130_sm := .inl ⟨f130_ok, ⟨Try.f130, Try.func130, by kernel_rfl, by kernel_rfl⟩⟩
noncomputable def f96_code : Code := (Try.f96.body).getD .skip
noncomputable def f96_fx : Fx := { E := env, T := [(130, f130_sm)], H := [], O := [], nodes := [] }
noncomputable def f96_k {R : Type} (a0 : List Int) (a1 : (Unit)) (k : (Bool × Unit) × (Unit) → Option R) : Option R :=
 ((f130 a0 ()).bind fun r0 =>
 (k (((decide (r0.1.1 ≥ (0 : Int))), ()), ())))
noncomputable def f96 (a0 : List Int) (a1 : (Unit)) : Option ((Bool × Unit) × (Unit)) := f96_k a0 a1 some
noncomputable def f96_sm : Sm := { ps := [.ro (.slc (.int .u8)), .fn 97 []], rs := [(.bool, .ro)], F := fun x => f96 x.1 x.2.1 }
theorem f96_m (x : ArgT [.ro (.slc (.int .u8)), .fn 97 []]) : codeS f96_fx f96_code (start [.ro (.slc (.int .u8)), .fn 97 []] [] x 9) (finK env [.tmp 4] [.ro (.slc (.int .u8)), .fn 97 []] [(.bool, .ro)]) = f96_k x.1 x.2.1 (fun r => some (r, [])) := by kernel_rfl
theorem f96_n {R : Type} (a0 : List Int) (a1 : (Unit)) (k : (Bool × Unit) × (Unit) → Option R) : f96_k a0 a1 k = (f96 a0 a1).bind k := by
  simp only [f96, f96_k, cond_bind, ite_bind, bind_bind, some_bind, none_bind, elim_bind, whenS_bind]
theorem f96_ok : SmOk Try.prog 96 f96_sm :=
  sum_of (c := f96_fx) (fn := Try.f96) (code := f96_code) (sm := f96_sm) mixed (env_ok env_envB) (TabsOk.all ⟨f130_c, trivial⟩) Try.func96 (by kernel_rfl)
   ((LoopsOk.of (l := []) (by kernel_rfl) trivial))
   (no_tails (by kernel_rfl)) rfl
   (fun ks x hl => by
    have hk : ks = [] := List.length_eq_zero_iff.1 hl
    subst hk
    exact (f96_m x).trans (f96_n _ _ _))
theorem f96_c : CalOk Try.prog 96 f96_sm := .inl ⟨f96_ok, ⟨Try.f96, Try.func96, by kernel_rfl, by kernel_rfl⟩⟩
noncomputable def f69_code : Code := (Try.f69.body).getD .skip
noncomputable def f69_l2_sk : SkS := ⟨15, [(0, .con (.slc (.int .u8))), (2, .con (.int .i64))], []⟩
noncomputable def f69_l2_o0 : SkS := ⟨15, [(0, .con (.slc (.int .u8))), (2, .con (.int .i64))], []⟩
noncomputable def f69_l2_outs : List Way := [⟨(.exit 0), [], f69_l2_o0⟩]
abbrev f69_l2_C := List Int
abbrev f69_l2_X := Int
abbrev f69_l2_Y := (Int)
noncomputable def f69_l2_con (t : f69_l2_sk.T) : f69_l2_C := t.1.1
noncomputable def f69_l2_get (t : f69_l2_sk.T) : f69_l2_X := t.1.2.1
noncomputable def f69_l2_put (c : f69_l2_C) (x : f69_l2_X) : f69_l2_sk.T := ((c, (x, ())), ())
theorem f69_l2_pg (t : f69_l2_sk.T) : f69_l2_put (f69_l2_con t) (f69_l2_get t) = t := by kernel_rfl
noncomputable def f69_l2_w0 (c : f69_l2_C) (y : Int) : f69_l2_o0.T := ((c, (y, ())), ())
noncomputable def f69_l2_out (c : f69_l2_C) (y : f69_l2_Y) : OutV f69_l2_outs := (fun y => (.inl (f69_l2_w0 c y))) y
noncomputable def f69_l2_k {R : Type} (a0 : List Int) (a1 : Int) (kin : f69_l2_X → Option R) (k0 : Int → Option R) : Option R :=
 (cond (decide (a1 < (20 : Int)))
 (if (0 : Int) ≤ a1 ∧ a1 < ((List.length a0 : Nat) : Int) then (cond ((List.getD a0 (Int.toNat a1) (0 : Int)) != (0 : Int))
  (let v0 : Int := (IntKind.i64.wrap (a1 + (1 : Int)))
   (kin v0))
  (k0 a1)) else none)
 (k0 a1))
noncomputable def f69_l2_g (a0 : List Int) (x : f69_l2_X) : Option (f69_l2_X ⊕ f69_l2_Y) := f69_l2_k a0 x (fun x => some (.inl x)) (fun y => some (.inr y))
noncomputable def f69_l2 (a0 : List Int) (x : f69_l2_X) : Option f69_l2_Y := loopO (f69_l2_g a0) x
noncomputable def f69_l2_nd : Node := { nils := [], sk := f69_l2_sk, outs := f69_l2_outs, Y := f69_l2_Y, L := fun t => f69_l2 ((f69_l2_con t)) (f69_l2_get t), out := fun t y => f69_l2_out (f69_l2_con t) y, disp := fun t y K => (fun y => K (.exit 0) (f69_l2_o0.fill (f69_l2_w0 (f69_l2_con t) y))) y }
noncomputable def f69_fx : Fx := { E := env, T := [], H := [], O := [], nodes := [((true, 2), f69_l2_nd)] }
noncomputable def f69_l2_b : Code := (loops f69_code).getD 0 .skip
theorem f69_l2_r (c : f69_l2_C) (x : f69_l2_X) : roundS f69_fx f69_l2_b f69_l2_nd (f69_l2_put c x) = f69_l2_k c x (fun x => some (.inl (f69_l2_put c x))) (fun y => some (.inr (.inl (f69_l2_w0 c y)))) := by kernel_rfl
theorem f69_l2_n {R : Type} (a0 : List Int) (a1 : Int) (kin : f69_l2_X → Option R) (k0 : Int → Option R) : f69_l2_k a0 a1 kin k0 = (f69_l2_g a0 a1).bind (Sum.elim kin k0) := by
  simp only [f69_l2_g, f69_l2_k, cond_bind, ite_bind, bind_bind, some_bind, none_bind, elim_bind, whenS_bind, Sum.elim_inl, Sum.elim_inr]
theorem f69_l2_ok : LoopOk f69_fx f69_l2_b f69_l2_nd := loop_ok f69_l2_con f69_l2_get f69_l2_put f69_l2_pg (fun c => f69_l2_g c) f69_l2_out (fun t y => rfl) (fun t y K => rfl) (fun c x => by
  refine (f69_l2_r c x).trans ((f69_l2_n _ _ _ _).trans ?_)
  first
  | rfl
  | congr 1
    funext s
    rcases s with s | s <;> rfl) (fun t => rfl)
noncomputable def f69_k {R : Type} (a0 : List Int) (k : (ByteArray × Unit) × (Unit) → Option R) : Option R :=
 ((f69_l2 a0 (0 : Int)).bind fun y1 =>
 (if (0 : Int) ≤ (0 : Int) ∧ (0 : Int) ≤ y1 ∧ y1 ≤ ((List.length a0 : Nat) : Int) then (k (((b2s (List.take ((Int.toNat y1) - 0) (List.drop 0 a0))), ()), ())) else none))
noncomputable def f69 (a0 : List Int) : Option ((ByteArray × Unit) × (Unit)) := f69_k a0 some
noncomputable def f69_sm : Sm := { ps := [.ro (.slc (.int .u8))], rs := [(.str, .ro)], F := fun x => f69 x.1 }
theorem f69_m (x : ArgT [.ro (.slc (.int .u8))]) : codeS f69_fx f69_code (start [.ro (.slc (.int .u8))] [] x 19) (finK env [.tmp 2] [.ro (.slc (.int .u8))] [(.str, .ro)]) = f69_k x.1 (fun r => some (r, [])) := by kernel_rfl
theorem f69_n {R : Type} (a0 : List Int) (k : (ByteArray × Unit) × (Unit) → Option R) : f69_k a0 k = (f69 a0).bind k := by
  simp only [f69, f69_k, cond_bind, ite_bind, bind_bind, some_bind, none_bind, elim_bind, whenS_bind]
theorem f69_ok : SmOk Try.prog 69 f69_sm :=
  sum_of (c := f69_fx) (fn := Try.f69) (code := f69_code) (sm := f69_sm) mixed (env_ok env_envB) (TabsOk.all trivial) Try.func69 (by kernel_rfl)
   ((LoopsOk.of (l := [f69_l2_b]) (by kernel_rfl) ⟨node_is (by kernel_rfl) f69_l2_ok, trivial⟩))
   (no_tails (by kernel_rfl)) rfl
   (fun ks x hl => by
    have hk : ks = [] := List.length_eq_zero_iff.1 hl
    subst hk
    exact (f69_m x).trans (f69_n _ _))
theorem f69_c : CalOk Try.prog 69 f69_sm := .inl ⟨f69_ok, ⟨Try.f69, Try.func69, by kernel_rfl, by kernel_rfl⟩⟩
noncomputable def f11_code : Code := (Try.f11.body).getD .skip
noncomputable def f11_l4_sk : SkS := ⟨25, [(0, .con .str), (22, .con (.int .i64)), (0, .con (.int .i64))], []⟩
noncomputable def f11_l4_o0 : SkS := ⟨47, [(2, .con .bool)], []⟩
noncomputable def f11_l4_o1 : SkS := ⟨50, [], []⟩
noncomputable def f11_l4_outs : List Way := [⟨.ret, [], f11_l4_o0⟩, ⟨(.exit 0), [], f11_l4_o1⟩]
abbrev f11_l4_C := (ByteArray × Int)
abbrev f11_l4_X := Int
abbrev f11_l4_Y := (Unit) ⊕ (Unit)
noncomputable def f11_l4_con (t : f11_l4_sk.T) : f11_l4_C := (t.1.1, t.1.2.1)
noncomputable def f11_l4_get (t : f11_l4_sk.T) : f11_l4_X := t.1.2.2.1
noncomputable def f11_l4_put (c : f11_l4_C) (x : f11_l4_X) : f11_l4_sk.T := ((c.1, (c.2, (x, ()))), ())
theorem f11_l4_pg (t : f11_l4_sk.T) : f11_l4_put (f11_l4_con t) (f11_l4_get t) = t := by kernel_rfl
noncomputable def f11_l4_w0 (c : f11_l4_C) (y : Unit) : f11_l4_o0.T := ((false, ()), ())
noncomputable def f11_l4_w1 (c : f11_l4_C) (y : Unit) : f11_l4_o1.T := ((), ())
noncomputable def f11_l4_out (c : f11_l4_C) (y : f11_l4_Y) : OutV f11_l4_outs := (Sum.elim (fun y => (.inl (f11_l4_w0 c y))) (fun y => (.inr (.inl (f11_l4_w1 c y))))) y
noncomputable def f11_l4_k {R : Type} (a0 : ByteArray) (a1 : Int) (a2 : Int) (kin : f11_l4_X → Option R) (k0 : Unit → Option R) (k1 : Unit → Option R) : Option R :=
 (cond (decide (a2 < a1))
 (if (0 : Int) ≤ a2 ∧ a2 < ((ByteArray.size a0 : Nat) : Int) then (cond (decide ((bt a0 a2) ≥ (97 : Int)))
  (cond (decide ((bt a0 a2) ≤ (122 : Int)))
   (let v0 : Int := (IntKind.i64.wrap (a2 + (1 : Int)))
    (kin v0))
   (cond (decide ((bt a0 a2) ≥ (48 : Int)))
    (cond (decide ((bt a0 a2) ≤ (57 : Int)))
     (let v1 : Int := (IntKind.i64.wrap (a2 + (1 : Int)))
      (kin v1))
     (cond (!((bt a0 a2) == (45 : Int)))
      (k0 ())
      (let v2 : Int := (IntKind.i64.wrap (a2 + (1 : Int)))
       (kin v2))))
    (cond (!((bt a0 a2) == (45 : Int)))
     (k0 ())
     (let v3 : Int := (IntKind.i64.wrap (a2 + (1 : Int)))
      (kin v3)))))
  (cond (decide ((bt a0 a2) ≥ (48 : Int)))
   (cond (decide ((bt a0 a2) ≤ (57 : Int)))
    (let v4 : Int := (IntKind.i64.wrap (a2 + (1 : Int)))
     (kin v4))
    (cond (!((bt a0 a2) == (45 : Int)))
     (k0 ())
     (let v5 : Int := (IntKind.i64.wrap (a2 + (1 : Int)))
      (kin v5))))
   (cond (!((bt a0 a2) == (45 : Int)))
    (k0 ())
    (let v6 : Int := (IntKind.i64.wrap (a2 + (1 : Int)))
     (kin v6))))) else none)
 (k1 ()))
noncomputable def f11_l4_g (a0 : ByteArray) (a1 : Int) (x : f11_l4_X) : Option (f11_l4_X ⊕ f11_l4_Y) := f11_l4_k a0 a1 x (fun x => some (.inl x)) (fun y => some (.inr (.inl y))) (fun y => some (.inr (.inr y)))
noncomputable def f11_l4 (a0 : ByteArray) (a1 : Int) (x : f11_l4_X) : Option f11_l4_Y := loopO (f11_l4_g a0 a1) x
noncomputable def f11_l4_nd : Node := { nils := [], sk := f11_l4_sk, outs := f11_l4_outs, Y := f11_l4_Y, L := fun t => f11_l4 ((f11_l4_con t).1) ((f11_l4_con t).2) (f11_l4_get t), out := fun t y => f11_l4_out (f11_l4_con t) y, disp := fun t y K => (Sum.elim (fun y => K .ret (f11_l4_o0.fill (f11_l4_w0 (f11_l4_con t) y))) (fun y => K (.exit 0) (f11_l4_o1.fill (f11_l4_w1 (f11_l4_con t) y)))) y }
noncomputable def f11_fx : Fx := { E := env, T := [], H := [], O := [], nodes := [((true, 4), f11_l4_nd)] }
noncomputable def f11_l4_b : Code := (loops f11_code).getD 0 .skip
theorem f11_l4_r (c : f11_l4_C) (x : f11_l4_X) : roundS f11_fx f11_l4_b f11_l4_nd (f11_l4_put c x) = f11_l4_k c.1 c.2 x (fun x => some (.inl (f11_l4_put c x))) (fun y => some (.inr (.inl (f11_l4_w0 c y)))) (fun y => some (.inr (.inr (.inl (f11_l4_w1 c y))))) := by kernel_rfl
theorem f11_l4_n {R : Type} (a0 : ByteArray) (a1 : Int) (a2 : Int) (kin : f11_l4_X → Option R) (k0 : Unit → Option R) (k1 : Unit → Option R) : f11_l4_k a0 a1 a2 kin k0 k1 = (f11_l4_g a0 a1 a2).bind (Sum.elim kin (Sum.elim k0 k1)) := by
  simp only [f11_l4_g, f11_l4_k, cond_bind, ite_bind, bind_bind, some_bind, none_bind, elim_bind, whenS_bind, Sum.elim_inl, Sum.elim_inr]
theorem f11_l4_ok : LoopOk f11_fx f11_l4_b f11_l4_nd := loop_ok f11_l4_con f11_l4_get f11_l4_put f11_l4_pg (fun c => f11_l4_g c.1 c.2) f11_l4_out (fun t y => rfl) (by intro R t y K; rcases y with y | y <;> rfl) (fun c x => by
  refine (f11_l4_r c x).trans ((f11_l4_n _ _ _ _ _ _).trans ?_)
  first
  | rfl
  | congr 1
    funext s
    rcases s with s | s | s <;> rfl) (fun t => rfl)
noncomputable def f11_k {R : Type} (a0 : ByteArray) (k : (Bool × Unit) × (Unit) → Option R) : Option R :=
 (cond (strEq a0 (⟨#[]⟩ : ByteArray))
 (k ((false, ()), ()))
 (cond (decide (((ByteArray.size a0 : Nat) : Int) > (20 : Int)))
  (k ((false, ()), ()))
  (if (0 : Int) ≤ (0 : Int) ∧ (0 : Int) < ((ByteArray.size a0 : Nat) : Int) then (cond (decide ((bt a0 (0 : Int)) < (97 : Int)))
   (k ((false, ()), ()))
   (if (0 : Int) ≤ (0 : Int) ∧ (0 : Int) < ((ByteArray.size a0 : Nat) : Int) then (cond (decide ((bt a0 (0 : Int)) > (122 : Int)))
    (k ((false, ()), ()))
    ((f11_l4 a0 ((ByteArray.size a0 : Nat) : Int) (0 : Int)).bind fun y7 =>
     ((Sum.elim (fun z8 =>
     (k ((false, ()), ())))
     (fun z9 =>
     (k ((true, ()), ())))) y7))) else none)) else none)))
noncomputable def f11 (a0 : ByteArray) : Option ((Bool × Unit) × (Unit)) := f11_k a0 some
noncomputable def f11_sm : Sm := { ps := [.ro .str], rs := [(.bool, .ro)], F := fun x => f11 x.1 }
theorem f11_m (x : ArgT [.ro .str]) : codeS f11_fx f11_code (start [.ro .str] [] x 50) (finK env [.tmp 2] [.ro .str] [(.bool, .ro)]) = f11_k x.1 (fun r => some (r, [])) := by kernel_rfl
theorem f11_n {R : Type} (a0 : ByteArray) (k : (Bool × Unit) × (Unit) → Option R) : f11_k a0 k = (f11 a0).bind k := by
  simp only [f11, f11_k, cond_bind, ite_bind, bind_bind, some_bind, none_bind, elim_bind, whenS_bind]
theorem f11_ok : SmOk Try.prog 11 f11_sm :=
  sum_of (c := f11_fx) (fn := Try.f11) (code := f11_code) (sm := f11_sm) mixed (env_ok env_envB) (TabsOk.all trivial) Try.func11 (by kernel_rfl)
   ((LoopsOk.of (l := [f11_l4_b]) (by kernel_rfl) ⟨node_is (by kernel_rfl) f11_l4_ok, trivial⟩))
   (no_tails (by kernel_rfl)) rfl
   (fun ks x hl => by
    have hk : ks = [] := List.length_eq_zero_iff.1 hl
    subst hk
    exact (f11_m x).trans (f11_n _ _))
theorem f11_c : CalOk Try.prog 11 f11_sm := .inl ⟨f11_ok, ⟨Try.f11, Try.func11, by kernel_rfl, by kernel_rfl⟩⟩
noncomputable def f131_code : Code := (Try.f131.body).getD .skip
noncomputable def f131_fx : Fx := { E := env, T := [], H := [], O := [], nodes := [] }
noncomputable def f131_k {R : Type} (a0 : Int) (k : (Bool × Unit) × (Unit) → Option R) : Option R :=
 (k (((a0 != (0 : Int)), ()), ()))
noncomputable def f131 (a0 : Int) : Option ((Bool × Unit) × (Unit)) := f131_k a0 some
noncomputable def f131_sm : Sm := { ps := [.ro (.int .u8)], rs := [(.bool, .ro)], F := fun x => f131 x.1 }
theorem f131_m (x : ArgT [.ro (.int .u8)]) : codeS f131_fx f131_code (start [.ro (.int .u8)] [] x 5) (finK env [.tmp 2] [.ro (.int .u8)] [(.bool, .ro)]) = f131_k x.1 (fun r => some (r, [])) := by kernel_rfl
theorem f131_n {R : Type} (a0 : Int) (k : (Bool × Unit) × (Unit) → Option R) : f131_k a0 k = (f131 a0).bind k := by
  simp only [f131, f131_k, cond_bind, ite_bind, bind_bind, some_bind, none_bind, elim_bind, whenS_bind]
theorem f131_ok : SmOk Try.prog 131 f131_sm :=
  sum_of (c := f131_fx) (fn := Try.f131) (code := f131_code) (sm := f131_sm) mixed (env_ok env_envB) (TabsOk.all trivial) Try.func131 (by kernel_rfl)
   ((LoopsOk.of (l := []) (by kernel_rfl) trivial))
   (no_tails (by kernel_rfl)) rfl
   (fun ks x hl => by
    have hk : ks = [] := List.length_eq_zero_iff.1 hl
    subst hk
    exact (f131_m x).trans (f131_n _ _))
theorem f131_c : CalOk Try.prog 131 f131_sm := .inl ⟨f131_ok, ⟨Try.f131, Try.func131, by kernel_rfl, by kernel_rfl⟩⟩
noncomputable def f130x1_code : Code := (Try.f130.body).getD .skip
noncomputable def f130x1_l2_sk : SkS := ⟨10, [(0, .con (.slc (.int .u8))), (0, .fn 131 (.tnil)), (5, .con (.int .i64)), (0, .con (.int .i64))], []⟩
noncomputable def f130x1_l2_o0 : SkS := ⟨14, [(4, .con (.int .i64))], []⟩
noncomputable def f130x1_l2_o1 : SkS := ⟨19, [], []⟩
noncomputable def f130x1_l2_outs : List Way := [⟨.ret, [], f130x1_l2_o0⟩, ⟨(.exit 0), [], f130x1_l2_o1⟩]
abbrev f130x1_l2_C := (List Int × Int)
abbrev f130x1_l2_X := Int
abbrev f130x1_l2_Y := (Int) ⊕ (Unit)
noncomputable def f130x1_l2_con (t : f130x1_l2_sk.T) : f130x1_l2_C := (t.1.1, t.1.2.2.1)
noncomputable def f130x1_l2_get (t : f130x1_l2_sk.T) : f130x1_l2_X := t.1.2.2.2.1
noncomputable def f130x1_l2_put (c : f130x1_l2_C) (x : f130x1_l2_X) : f130x1_l2_sk.T := ((c.1, ((), (c.2, (x, ())))), ())
theorem f130x1_l2_pg (t : f130x1_l2_sk.T) : f130x1_l2_put (f130x1_l2_con t) (f130x1_l2_get t) = t := by kernel_rfl
noncomputable def f130x1_l2_w0 (c : f130x1_l2_C) (y : Int) : f130x1_l2_o0.T := ((y, ()), ())
noncomputable def f130x1_l2_w1 (c : f130x1_l2_C) (y : Unit) : f130x1_l2_o1.T := ((), ())
noncomputable def f130x1_l2_out (c : f130x1_l2_C) (y : f130x1_l2_Y) : OutV f130x1_l2_outs := (Sum.elim (fun y => (.inl (f130x1_l2_w0 c y))) (fun y => (.inr (.inl (f130x1_l2_w1 c y))))) y
noncomputable def f130x1_l2_k {R : Type} (a0 : List Int) (a1 : Int) (a2 : Int) (kin : f130x1_l2_X → Option R) (k0 : Int → Option R) (k1 : Unit → Option R) : Option R :=
 (cond (decide (a2 < a1))
 (if (0 : Int) ≤ a2 ∧ a2 < ((List.length a0 : Nat) : Int) then ((f131 (List.getD a0 (Int.toNat a2) (0 : Int))).bind fun r0 =>
  (cond r0.1.1
  (k0 a2)
  (let v1 : Int := (IntKind.i64.wrap (a2 + (1 : Int)))
   (kin v1)))) else none)
 (k1 ()))
noncomputable def f130x1_l2_g (a0 : List Int) (a1 : Int) (x : f130x1_l2_X) : Option (f130x1_l2_X ⊕ f130x1_l2_Y) := f130x1_l2_k a0 a1 x (fun x => some (.inl x)) (fun y => some (.inr (.inl y))) (fun y => some (.inr (.inr y)))
noncomputable def f130x1_l2 (a0 : List Int) (a1 : Int) (x : f130x1_l2_X) : Option f130x1_l2_Y := loopO (f130x1_l2_g a0 a1) x
noncomputable def f130x1_l2_nd : Node := { nils := [], sk := f130x1_l2_sk, outs := f130x1_l2_outs, Y := f130x1_l2_Y, L := fun t => f130x1_l2 ((f130x1_l2_con t).1) ((f130x1_l2_con t).2) (f130x1_l2_get t), out := fun t y => f130x1_l2_out (f130x1_l2_con t) y, disp := fun t y K => (Sum.elim (fun y => K .ret (f130x1_l2_o0.fill (f130x1_l2_w0 (f130x1_l2_con t) y))) (fun y => K (.exit 0) (f130x1_l2_o1.fill (f130x1_l2_w1 (f130x1_l2_con t) y)))) y }
noncomputable def f130x1_fx : Fx := { E := env, T := [(131, f131_sm)], H := [], O := [], nodes := [((true, 2), f130x1_l2_nd)] }
noncomputable def f130x1_l2_b : Code := (loops f130x1_code).getD 0 .skip
theorem f130x1_l2_r (c : f130x1_l2_C) (x : f130x1_l2_X) : roundS f130x1_fx f130x1_l2_b f130x1_l2_nd (f130x1_l2_put c x) = f130x1_l2_k c.1 c.2 x (fun x => some (.inl (f130x1_l2_put c x))) (fun y => some (.inr (.inl (f130x1_l2_w0 c y)))) (fun y => some (.inr (.inr (.inl (f130x1_l2_w1 c y))))) := by kernel_rfl
theorem f130x1_l2_n {R : Type} (a0 : List Int) (a1 : Int) (a2 : Int) (kin : f130x1_l2_X → Option R) (k0 : Int → Option R) (k1 : Unit → Option R) : f130x1_l2_k a0 a1 a2 kin k0 k1 = (f130x1_l2_g a0 a1 a2).bind (Sum.elim kin (Sum.elim k0 k1)) := by
  simp only [f130x1_l2_g, f130x1_l2_k, cond_bind, ite_bind, bind_bind, some_bind, none_bind, elim_bind, whenS_bind, Sum.elim_inl, Sum.elim_inr]
theorem f130x1_l2_ok : LoopOk f130x1_fx f130x1_l2_b f130x1_l2_nd := loop_ok f130x1_l2_con f130x1_l2_get f130x1_l2_put f130x1_l2_pg (fun c => f130x1_l2_g c.1 c.2) f130x1_l2_out (fun t y => rfl) (by intro R t y K; rcases y with y | y <;> rfl) (fun c x => by
  refine (f130x1_l2_r c x).trans ((f130x1_l2_n _ _ _ _ _ _).trans ?_)
  first
  | rfl
  | congr 1
    funext s
    rcases s with s | s | s <;> rfl) (fun t => rfl)
noncomputable def f130x1_k {R : Type} (a0 : List Int) (a1 : (Unit)) (k : (Int × Unit) × (Unit) → Option R) : Option R :=
 ((f130x1_l2 a0 ((List.length a0 : Nat) : Int) (0 : Int)).bind fun y2 =>
 ((Sum.elim (fun z3 =>
 (k ((z3, ()), ())))
 (fun z4 =>
 (k (((-1 : Int), ()), ())))) y2))
noncomputable def f130x1 (a0 : List Int) (a1 : (Unit)) : Option ((Int × Unit) × (Unit)) := f130x1_k a0 a1 some
noncomputable def f130x1_sm : Sm := { ps := [.ro (.slc (.int .u8)), .fn 131 []], rs := [((.int .i64), .ro)], F := fun x => f130x1 x.1 x.2.1 }
theorem f130x1_m (x : ArgT [.ro (.slc (.int .u8)), .fn 131 []]) : codeS f130x1_fx f130x1_code (start [.ro (.slc (.int .u8)), .fn 131 []] [] x 19) (finK env [.tmp 4] [.ro (.slc (.int .u8)), .fn 131 []] [((.int .i64), .ro)]) = f130x1_k x.1 x.2.1 (fun r => some (r, [])) := by kernel_rfl
theorem f130x1_n {R : Type} (a0 : List Int) (a1 : (Unit)) (k : (Int × Unit) × (Unit) → Option R) : f130x1_k a0 a1 k = (f130x1 a0 a1).bind k := by
  simp only [f130x1, f130x1_k, cond_bind, ite_bind, bind_bind, some_bind, none_bind, elim_bind, whenS_bind]
theorem f130x1_ok : SmOk Try.prog 130 f130x1_sm :=
  sum_of (c := f130x1_fx) (fn := Try.f130) (code := f130x1_code) (sm := f130x1_sm) mixed (env_ok env_envB) (TabsOk.all ⟨f131_c, trivial⟩) Try.func130 (by kernel_rfl)
   ((LoopsOk.of (l := [f130x1_l2_b]) (by kernel_rfl) ⟨node_is (by kernel_rfl) f130x1_l2_ok, trivial⟩))
   (no_tails (by kernel_rfl)) rfl
   (fun ks x hl => by
    have hk : ks = [] := List.length_eq_zero_iff.1 hl
    subst hk
    exact (f130x1_m x).trans (f130x1_n _ _ _))
theorem f130x1_c : CalOk Try.prog 130 f130x1_sm := .inl ⟨f130x1_ok, ⟨Try.f130, Try.func130, by kernel_rfl, by kernel_rfl⟩⟩
noncomputable def f96x1_code : Code := (Try.f96.body).getD .skip
noncomputable def f96x1_fx : Fx := { E := env, T := [(130, f130x1_sm)], H := [], O := [], nodes := [] }
noncomputable def f96x1_k {R : Type} (a0 : List Int) (a1 : (Unit)) (k : (Bool × Unit) × (Unit) → Option R) : Option R :=
 ((f130x1 a0 ()).bind fun r0 =>
 (k (((decide (r0.1.1 ≥ (0 : Int))), ()), ())))
noncomputable def f96x1 (a0 : List Int) (a1 : (Unit)) : Option ((Bool × Unit) × (Unit)) := f96x1_k a0 a1 some
noncomputable def f96x1_sm : Sm := { ps := [.ro (.slc (.int .u8)), .fn 131 []], rs := [(.bool, .ro)], F := fun x => f96x1 x.1 x.2.1 }
theorem f96x1_m (x : ArgT [.ro (.slc (.int .u8)), .fn 131 []]) : codeS f96x1_fx f96x1_code (start [.ro (.slc (.int .u8)), .fn 131 []] [] x 9) (finK env [.tmp 4] [.ro (.slc (.int .u8)), .fn 131 []] [(.bool, .ro)]) = f96x1_k x.1 x.2.1 (fun r => some (r, [])) := by kernel_rfl
theorem f96x1_n {R : Type} (a0 : List Int) (a1 : (Unit)) (k : (Bool × Unit) × (Unit) → Option R) : f96x1_k a0 a1 k = (f96x1 a0 a1).bind k := by
  simp only [f96x1, f96x1_k, cond_bind, ite_bind, bind_bind, some_bind, none_bind, elim_bind, whenS_bind]
theorem f96x1_ok : SmOk Try.prog 96 f96x1_sm :=
  sum_of (c := f96x1_fx) (fn := Try.f96) (code := f96x1_code) (sm := f96x1_sm) mixed (env_ok env_envB) (TabsOk.all ⟨f130x1_c, trivial⟩) Try.func96 (by kernel_rfl)
   ((LoopsOk.of (l := []) (by kernel_rfl) trivial))
   (no_tails (by kernel_rfl)) rfl
   (fun ks x hl => by
    have hk : ks = [] := List.length_eq_zero_iff.1 hl
    subst hk
    exact (f96x1_m x).trans (f96x1_n _ _ _))
theorem f96x1_c : CalOk Try.prog 96 f96x1_sm := .inl ⟨f96x1_ok, ⟨Try.f96, Try.func96, by kernel_rfl, by kernel_rfl⟩⟩
noncomputable def f98_code : Code := (Try.f98.body).getD .skip
noncomputable def f98_l2_sk : SkS := ⟨16, [(0, .con (.slc (.int .u8))), (2, .con (.int .i64))], []⟩
noncomputable def f98_l2_o0 : SkS := ⟨17, [(2, .con .bool)], []⟩
noncomputable def f98_l2_o1 : SkS := ⟨19, [(0, .con (.slc (.int .u8)))], []⟩
noncomputable def f98_l2_outs : List Way := [⟨.ret, [], f98_l2_o0⟩, ⟨(.exit 0), [], f98_l2_o1⟩]
abbrev f98_l2_C := List Int
abbrev f98_l2_X := Int
abbrev f98_l2_Y := (Unit) ⊕ (Unit)
noncomputable def f98_l2_con (t : f98_l2_sk.T) : f98_l2_C := t.1.1
noncomputable def f98_l2_get (t : f98_l2_sk.T) : f98_l2_X := t.1.2.1
noncomputable def f98_l2_put (c : f98_l2_C) (x : f98_l2_X) : f98_l2_sk.T := ((c, (x, ())), ())
theorem f98_l2_pg (t : f98_l2_sk.T) : f98_l2_put (f98_l2_con t) (f98_l2_get t) = t := by kernel_rfl
noncomputable def f98_l2_w0 (c : f98_l2_C) (y : Unit) : f98_l2_o0.T := ((false, ()), ())
noncomputable def f98_l2_w1 (c : f98_l2_C) (y : Unit) : f98_l2_o1.T := ((c, ()), ())
noncomputable def f98_l2_out (c : f98_l2_C) (y : f98_l2_Y) : OutV f98_l2_outs := (Sum.elim (fun y => (.inl (f98_l2_w0 c y))) (fun y => (.inr (.inl (f98_l2_w1 c y))))) y
noncomputable def f98_l2_k {R : Type} (a0 : List Int) (a1 : Int) (kin : f98_l2_X → Option R) (k0 : Unit → Option R) (k1 : Unit → Option R) : Option R :=
 (cond (decide (a1 < (20 : Int)))
 (if (0 : Int) ≤ a1 ∧ a1 < ((List.length a0 : Nat) : Int) then (cond ((List.getD a0 (Int.toNat a1) (0 : Int)) != (0 : Int))
  (k0 ())
  (let v1 : Int := (IntKind.i64.wrap (a1 + (1 : Int)))
   (kin v1))) else none)
 (k1 ()))
noncomputable def f98_l2_g (a0 : List Int) (x : f98_l2_X) : Option (f98_l2_X ⊕ f98_l2_Y) := f98_l2_k a0 x (fun x => some (.inl x)) (fun y => some (.inr (.inl y))) (fun y => some (.inr (.inr y)))
noncomputable def f98_l2 (a0 : List Int) (x : f98_l2_X) : Option f98_l2_Y := loopO (f98_l2_g a0) x
noncomputable def f98_l2_nd : Node := { nils := [], sk := f98_l2_sk, outs := f98_l2_outs, Y := f98_l2_Y, L := fun t => f98_l2 ((f98_l2_con t)) (f98_l2_get t), out := fun t y => f98_l2_out (f98_l2_con t) y, disp := fun t y K => (Sum.elim (fun y => K .ret (f98_l2_o0.fill (f98_l2_w0 (f98_l2_con t) y))) (fun y => K (.exit 0) (f98_l2_o1.fill (f98_l2_w1 (f98_l2_con t) y)))) y }
noncomputable def f98_fx : Fx := { E := env, T := [(69, f69_sm), (96, f96x1_sm)], H := [], O := [], nodes := [((true, 2), f98_l2_nd)] }
noncomputable def f98_l2_b : Code := (loops f98_code).getD 0 .skip
theorem f98_l2_r (c : f98_l2_C) (x : f98_l2_X) : roundS f98_fx f98_l2_b f98_l2_nd (f98_l2_put c x) = f98_l2_k c x (fun x => some (.inl (f98_l2_put c x))) (fun y => some (.inr (.inl (f98_l2_w0 c y)))) (fun y => some (.inr (.inr (.inl (f98_l2_w1 c y))))) := by kernel_rfl
theorem f98_l2_n {R : Type} (a0 : List Int) (a1 : Int) (kin : f98_l2_X → Option R) (k0 : Unit → Option R) (k1 : Unit → Option R) : f98_l2_k a0 a1 kin k0 k1 = (f98_l2_g a0 a1).bind (Sum.elim kin (Sum.elim k0 k1)) := by
  simp only [f98_l2_g, f98_l2_k, cond_bind, ite_bind, bind_bind, some_bind, none_bind, elim_bind, whenS_bind, Sum.elim_inl, Sum.elim_inr]
theorem f98_l2_ok : LoopOk f98_fx f98_l2_b f98_l2_nd := loop_ok f98_l2_con f98_l2_get f98_l2_put f98_l2_pg (fun c => f98_l2_g c) f98_l2_out (fun t y => rfl) (by intro R t y K; rcases y with y | y <;> rfl) (fun c x => by
  refine (f98_l2_r c x).trans ((f98_l2_n _ _ _ _ _).trans ?_)
  first
  | rfl
  | congr 1
    funext s
    rcases s with s | s | s <;> rfl) (fun t => rfl)
noncomputable def f98_k {R : Type} (a0 : List Int) (k : (Bool × Unit) × (Unit) → Option R) : Option R :=
 ((f69 a0).bind fun r0 =>
 ((f98_l2 a0 ((ByteArray.size r0.1.1 : Nat) : Int)).bind fun y2 =>
 ((Sum.elim (fun z3 =>
 (k ((false, ()), ())))
 (fun z4 =>
 (if (0 : Int) ≤ (23 : Int) ∧ (23 : Int) ≤ ((List.length a0 : Nat) : Int) ∧ ((List.length a0 : Nat) : Int) ≤ ((List.length a0 : Nat) : Int) then ((f96x1 (List.take ((Int.toNat ((List.length a0 : Nat) : Int)) - 23) (List.drop 23 a0)) ()).bind fun r5 =>
  (k (((!r5.1.1), ()), ()))) else none))) y2)))
noncomputable def f98 (a0 : List Int) : Option ((Bool × Unit) × (Unit)) := f98_k a0 some
noncomputable def f98_sm : Sm := { ps := [.ro (.slc (.int .u8))], rs := [(.bool, .ro)], F := fun x => f98 x.1 }
theorem f98_m (x : ArgT [.ro (.slc (.int .u8))]) : codeS f98_fx f98_code (start [.ro (.slc (.int .u8))] [] x 20) (finK env [.tmp 2] [.ro (.slc (.int .u8))] [(.bool, .ro)]) = f98_k x.1 (fun r => some (r, [])) := by kernel_rfl
theorem f98_n {R : Type} (a0 : List Int) (k : (Bool × Unit) × (Unit) → Option R) : f98_k a0 k = (f98 a0).bind k := by
  simp only [f98, f98_k, cond_bind, ite_bind, bind_bind, some_bind, none_bind, elim_bind, whenS_bind]
theorem f98_ok : SmOk Try.prog 98 f98_sm :=
  sum_of (c := f98_fx) (fn := Try.f98) (code := f98_code) (sm := f98_sm) mixed (env_ok env_envB) (TabsOk.all ⟨f69_c, f96x1_c, trivial⟩) Try.func98 (by kernel_rfl)
   ((LoopsOk.of (l := [f98_l2_b]) (by kernel_rfl) ⟨node_is (by kernel_rfl) f98_l2_ok, trivial⟩))
   (no_tails (by kernel_rfl)) rfl
   (fun ks x hl => by
    have hk : ks = [] := List.length_eq_zero_iff.1 hl
    subst hk
    exact (f98_m x).trans (f98_n _ _))
theorem f98_c : CalOk Try.prog 98 f98_sm := .inl ⟨f98_ok, ⟨Try.f98, Try.func98, by kernel_rfl, by kernel_rfl⟩⟩
noncomputable def f68_code : Code := (Try.f68.body).getD .skip
noncomputable def f68_l7_sk : SkS := ⟨65, [(1, .ptr 16 []), (18, .con (.int .i64))], [(16, ⟨some 24, Qt2, .ro, none⟩)]⟩
noncomputable def f68_l7_o0 : SkS := ⟨83, [(2, .con (.int .i64))], []⟩
noncomputable def f68_l7_o1 : SkS := ⟨84, [(1, .ptr 16 [])], [(16, ⟨some 24, Qt2, .ro, none⟩)]⟩
noncomputable def f68_l7_outs : List Way := [⟨.ret, [], f68_l7_o0⟩, ⟨(.exit 0), [], f68_l7_o1⟩]
abbrev f68_l7_C := (Qv0 × (Option Nat))
abbrev f68_l7_X := Int
abbrev f68_l7_Y := (Unit) ⊕ (Unit)
noncomputable def f68_l7_con (t : f68_l7_sk.T) : f68_l7_C := (t.2.1.1, t.2.1.2)
noncomputable def f68_l7_get (t : f68_l7_sk.T) : f68_l7_X := t.1.1
noncomputable def f68_l7_put (c : f68_l7_C) (x : f68_l7_X) : f68_l7_sk.T := ((x, ()), ((c.1, c.2), ()))
theorem f68_l7_pg (t : f68_l7_sk.T) : f68_l7_put (f68_l7_con t) (f68_l7_get t) = t := by kernel_rfl
noncomputable def f68_l7_w0 (c : f68_l7_C) (y : Unit) : f68_l7_o0.T := (((3 : Int), ()), ())
noncomputable def f68_l7_w1 (c : f68_l7_C) (y : Unit) : f68_l7_o1.T := ((), ((c.1, c.2), ()))
noncomputable def f68_l7_out (c : f68_l7_C) (y : f68_l7_Y) : OutV f68_l7_outs := (Sum.elim (fun y => (.inl (f68_l7_w0 c y))) (fun y => (.inr (.inl (f68_l7_w1 c y))))) y
noncomputable def f68_l7_k {R : Type} (a0 : Int) (a1 : Qv0) (kin : f68_l7_X → Option R) (k0 : Unit → Option R) (k1 : Unit → Option R) : Option R :=
 (cond (decide (a0 < (256 : Int)))
 ((f42 a1 a0).bind fun r1 =>
  (cond (decide (a0 < (10 : Int)))
  (cond (!(true == (r1.1.1 == (253 : Int))))
   (k0 ())
   (cond (decide (r1.1.1 < (253 : Int)))
    (cond (decide (r1.1.1 < (10 : Int)))
     (k0 ())
     (cond (decide (r1.1.1 ≥ ((List.length a1.2.2.1 : Nat) : Int)))
      (k0 ())
      (let v2 : Int := (IntKind.i64.wrap (a0 + (1 : Int)))
       (kin v2))))
    (let v3 : Int := (IntKind.i64.wrap (a0 + (1 : Int)))
     (kin v3))))
  (cond (!((decide (a0 ≥ ((List.length a1.2.2.1 : Nat) : Int))) == (r1.1.1 == (253 : Int))))
   (k0 ())
   (cond (decide (r1.1.1 < (253 : Int)))
    (cond (decide (r1.1.1 < (10 : Int)))
     (k0 ())
     (cond (decide (r1.1.1 ≥ ((List.length a1.2.2.1 : Nat) : Int)))
      (k0 ())
      (let v4 : Int := (IntKind.i64.wrap (a0 + (1 : Int)))
       (kin v4))))
    (let v5 : Int := (IntKind.i64.wrap (a0 + (1 : Int)))
     (kin v5))))))
 (k1 ()))
noncomputable def f68_l7_g (a1 : Qv0) (x : f68_l7_X) : Option (f68_l7_X ⊕ f68_l7_Y) := f68_l7_k x a1 (fun x => some (.inl x)) (fun y => some (.inr (.inl y))) (fun y => some (.inr (.inr y)))
noncomputable def f68_l7 (a1 : Qv0) (x : f68_l7_X) : Option f68_l7_Y := loopO (f68_l7_g a1) x
noncomputable def f68_l7_nd : Node := { nils := [], sk := f68_l7_sk, outs := f68_l7_outs, Y := f68_l7_Y, L := fun t => f68_l7 ((f68_l7_con t).1) (f68_l7_get t), out := fun t y => f68_l7_out (f68_l7_con t) y, disp := fun t y K => (Sum.elim (fun y => K .ret (f68_l7_o0.fill (f68_l7_w0 (f68_l7_con t) y))) (fun y => K (.exit 0) (f68_l7_o1.fill (f68_l7_w1 (f68_l7_con t) y)))) y }
noncomputable def f68_l16_sk : SkS := ⟨29, [(1, .ptr 16 []), (5, .ref 880 []), (48, .con (.int .i64))], [(16, ⟨some 24, Qt2, .ro, none⟩), (880, ⟨none, (.mp .str .bool), (.own (.own .ro)), none⟩)]⟩
noncomputable def f68_l16_o0 : SkS := ⟨83, [(2, .con (.int .i64))], []⟩
noncomputable def f68_l16_o1 : SkS := ⟨86, [], []⟩
noncomputable def f68_l16_outs : List Way := [⟨.ret, [], f68_l16_o0⟩, ⟨(.exit 2), [], f68_l16_o1⟩]
abbrev f68_l16_C := (Qv0 × (Option Nat))
abbrev f68_l16_X := (Int × List (ByteArray × Bool))
abbrev f68_l16_Y := (Int) ⊕ (Unit)
noncomputable def f68_l16_con (t : f68_l16_sk.T) : f68_l16_C := (t.2.1.1, t.2.1.2)
noncomputable def f68_l16_get (t : f68_l16_sk.T) : f68_l16_X := (t.1.1, t.2.2.1.1)
noncomputable def f68_l16_put (c : f68_l16_C) (x : f68_l16_X) : f68_l16_sk.T := ((x.1, ()), ((c.1, c.2), ((x.2, ()), ())))
theorem f68_l16_pg (t : f68_l16_sk.T) : f68_l16_put (f68_l16_con t) (f68_l16_get t) = t := by kernel_rfl
noncomputable def f68_l16_w0 (c : f68_l16_C) (y : Int) : f68_l16_o0.T := ((y, ()), ())
noncomputable def f68_l16_w1 (c : f68_l16_C) (y : Unit) : f68_l16_o1.T := ((), ())
noncomputable def f68_l16_out (c : f68_l16_C) (y : f68_l16_Y) : OutV f68_l16_outs := (Sum.elim (fun y => (.inl (f68_l16_w0 c y))) (fun y => (.inr (.inl (f68_l16_w1 c y))))) y
noncomputable def f68_l16_k {R : Type} (a0 : Int) (a1 : Qv0) (a2 : List (ByteArray × Bool)) (kin : f68_l16_X → Option R) (k0 : Int → Option R) (k1 : Unit → Option R) : Option R :=
 (cond (decide (a0 < (32 : Int)))
 ((f38 a1 a0).bind fun r9 =>
  (if (0 : Int) ≤ (0 : Int) ∧ (0 : Int) < ((List.length r9.1.1 : Nat) : Int) then (cond ((List.getD r9.1.1 0 (0 : Int)) == (0 : Int))
  ((f96 r9.1.1 ()).bind fun r10 =>
   (cond r10.1.1
   (k0 (3 : Int))
   (let v11 : Int := (IntKind.i64.wrap (a0 + (1 : Int)))
    (kin (v11, a2)))))
  ((f69 r9.1.1).bind fun r12 =>
   ((f11 r12.1.1).bind fun r13 =>
   (cond (!r13.1.1)
   (k0 (15 : Int))
   ((f98 r9.1.1).bind fun r14 =>
    (cond (!r14.1.1)
    (k0 (15 : Int))
    (let v15 : Bool := ((mfind .str .bool a2 r12.1.1).getD false)
     (cond v15
     (k0 (5 : Int))
     (let r16 : List (ByteArray × Bool) := (mset .str .bool a2 r12.1.1 true)
      (let v17 : Int := (IntKind.i64.wrap (a0 + (1 : Int)))
      (kin (v17, r16)))))))))))) else none))
 (k1 ()))
noncomputable def f68_l16_g (a1 : Qv0) (x : f68_l16_X) : Option (f68_l16_X ⊕ f68_l16_Y) := f68_l16_k x.1 a1 x.2 (fun x => some (.inl x)) (fun y => some (.inr (.inl y))) (fun y => some (.inr (.inr y)))
noncomputable def f68_l16 (a1 : Qv0) (x : f68_l16_X) : Option f68_l16_Y := loopO (f68_l16_g a1) x
noncomputable def f68_l16_nd : Node := { nils := [], sk := f68_l16_sk, outs := f68_l16_outs, Y := f68_l16_Y, L := fun t => f68_l16 ((f68_l16_con t).1) (f68_l16_get t), out := fun t y => f68_l16_out (f68_l16_con t) y, disp := fun t y K => (Sum.elim (fun y => K .ret (f68_l16_o0.fill (f68_l16_w0 (f68_l16_con t) y))) (fun y => K (.exit 2) (f68_l16_o1.fill (f68_l16_w1 (f68_l16_con t) y)))) y }
noncomputable def f68_fx : Fx := { E := env, T := [(51, f51_sm), (42, f42_sm), (38, f38_sm), (96, f96_sm), (69, f69_sm), (11, f11_sm), (98, f98_sm)], H := [], O := [], nodes := [((true, 7), f68_l7_nd), ((true, 16), f68_l16_nd)] }
noncomputable def f68_l7_b : Code := (loops f68_code).getD 0 .skip
theorem f68_l7_r (c : f68_l7_C) (x : f68_l7_X) : roundS f68_fx f68_l7_b f68_l7_nd (f68_l7_put c x) = f68_l7_k x c.1 (fun x => some (.inl (f68_l7_put c x))) (fun y => some (.inr (.inl (f68_l7_w0 c y)))) (fun y => some (.inr (.inr (.inl (f68_l7_w1 c y))))) := by kernel_rfl
theorem f68_l7_n {R : Type} (a0 : Int) (a1 : Qv0) (kin : f68_l7_X → Option R) (k0 : Unit → Option R) (k1 : Unit → Option R) : f68_l7_k a0 a1 kin k0 k1 = (f68_l7_g a1 a0).bind (Sum.elim kin (Sum.elim k0 k1)) := by
  simp only [f68_l7_g, f68_l7_k, cond_bind, ite_bind, bind_bind, some_bind, none_bind, elim_bind, whenS_bind, Sum.elim_inl, Sum.elim_inr]
theorem f68_l7_ok : LoopOk f68_fx f68_l7_b f68_l7_nd := loop_ok f68_l7_con f68_l7_get f68_l7_put f68_l7_pg (fun c => f68_l7_g c.1) f68_l7_out (fun t y => rfl) (by intro R t y K; rcases y with y | y <;> rfl) (fun c x => by
  refine (f68_l7_r c x).trans ((f68_l7_n _ _ _ _ _).trans ?_)
  first
  | rfl
  | congr 1
    funext s
    rcases s with s | s | s <;> rfl) (fun t => rfl)
noncomputable def f68_l16_b : Code := (loops f68_code).getD 1 .skip
theorem f68_l16_r (c : f68_l16_C) (x : f68_l16_X) : roundS f68_fx f68_l16_b f68_l16_nd (f68_l16_put c x) = f68_l16_k x.1 c.1 x.2 (fun x => some (.inl (f68_l16_put c x))) (fun y => some (.inr (.inl (f68_l16_w0 c y)))) (fun y => some (.inr (.inr (.inl (f68_l16_w1 c y))))) := by kernel_rfl
theorem f68_l16_n {R : Type} (a0 : Int) (a1 : Qv0) (a2 : List (ByteArray × Bool)) (kin : f68_l16_X → Option R) (k0 : Int → Option R) (k1 : Unit → Option R) : f68_l16_k a0 a1 a2 kin k0 k1 = (f68_l16_g a1 (a0, a2)).bind (Sum.elim kin (Sum.elim k0 k1)) := by
  simp only [f68_l16_g, f68_l16_k, cond_bind, ite_bind, bind_bind, some_bind, none_bind, elim_bind, whenS_bind, Sum.elim_inl, Sum.elim_inr]
theorem f68_l16_ok : LoopOk f68_fx f68_l16_b f68_l16_nd := loop_ok f68_l16_con f68_l16_get f68_l16_put f68_l16_pg (fun c => f68_l16_g c.1) f68_l16_out (fun t y => rfl) (by intro R t y K; rcases y with y | y <;> rfl) (fun c x => by
  refine (f68_l16_r c x).trans ((f68_l16_n _ _ _ _ _ _).trans ?_)
  first
  | rfl
  | congr 1
    funext s
    rcases s with s | s | s <;> rfl) (fun t => rfl)
noncomputable def f68_k {R : Type} (a0 : Qv0) (k : (Int × Unit) × (Unit) → Option R) : Option R :=
 ((f51 a0).bind fun r0 =>
 (cond (r0.1.1 != (0 : Int))
 (k ((r0.1.1, ()), ()))
 (cond (decide (((List.length a0.2.2.1 : Nat) : Int) ≤ (10 : Int)))
  (k (((13 : Int), ()), ()))
  ((f68_l7 a0 (0 : Int)).bind fun y6 =>
   ((Sum.elim (fun z7 =>
   (k (((3 : Int), ()), ())))
   (fun z8 =>
   ((f68_l16 a0 ((0 : Int), ([] : List (ByteArray × Bool)))).bind fun y18 =>
    ((Sum.elim (fun z19 =>
    (k ((z19, ()), ())))
    (fun z20 =>
    (k (((0 : Int), ()), ())))) y18)))) y6)))))
noncomputable def f68 (a0 : Qv0) : Option ((Int × Unit) × (Unit)) := f68_k a0 some
noncomputable def f68_sm : Sm := { ps := [.ro Qt2], rs := [((.int .i64), .ro)], F := fun x => f68 x.1 }
theorem f68_m (x : ArgT [.ro Qt2]) : codeS f68_fx f68_code (start [.ro Qt2] [] x 86) (finK env [.tmp 2] [.ro Qt2] [((.int .i64), .ro)]) = f68_k x.1 (fun r => some (r, [])) := by kernel_rfl
theorem f68_n {R : Type} (a0 : Qv0) (k : (Int × Unit) × (Unit) → Option R) : f68_k a0 k = (f68 a0).bind k := by
  simp only [f68, f68_k, cond_bind, ite_bind, bind_bind, some_bind, none_bind, elim_bind, whenS_bind]
theorem f68_ok : SmOk Try.prog 68 f68_sm :=
  sum_of (c := f68_fx) (fn := Try.f68) (code := f68_code) (sm := f68_sm) mixed (env_ok env_envB) (TabsOk.all ⟨f51_c, f42_c, f38_c, f96_c, f69_c, f11_c, f98_c, trivial⟩) Try.func68 (by kernel_rfl)
   ((LoopsOk.of (l := [f68_l7_b, f68_l16_b]) (by kernel_rfl) ⟨node_is (by kernel_rfl) f68_l7_ok, node_is (by kernel_rfl) f68_l16_ok, trivial⟩))
   (no_tails (by kernel_rfl)) rfl
   (fun ks x hl => by
    have hk : ks = [] := List.length_eq_zero_iff.1 hl
    subst hk
    exact (f68_m x).trans (f68_n _ _))
theorem f68_c : CalOk Try.prog 68 f68_sm := .inl ⟨f68_ok, ⟨Try.f68, Try.func68, by kernel_rfl, by kernel_rfl⟩⟩
noncomputable def f37_code : Code := (Try.f37.body).getD .skip
noncomputable def f37_l4_sk : SkS := ⟨53, [(2, .ref 32 []), (0, .ptr 48 []), (4, .ref 143 []), (0, .con (.int .i64)), (0, .con (.int .i64))], [(32, ⟨none, (.slc .bool), (.own .ro), some (2, 0)⟩), (48, ⟨some 24, Qt2, .ro, none⟩), (143, ⟨none, (.slc (.int .i64)), (.own .ro), none⟩)]⟩
noncomputable def f37_l4_o0 : SkS := ⟨56, [(6, .nil), (0, .con (.int .i64))], [(32, ⟨none, (.slc .bool), (.own .ro), some (2, 0)⟩)]⟩
noncomputable def f37_l4_o1 : SkS := ⟨54, [(8, .ref 143 []), (0, .con (.int .i64))], [(32, ⟨none, (.slc .bool), (.own .ro), some (2, 0)⟩), (143, ⟨none, (.slc (.int .i64)), (.own .ro), none⟩)]⟩
noncomputable def f37_l4_outs : List Way := [⟨.ret, [], f37_l4_o0⟩, ⟨(.exit 0), [], f37_l4_o1⟩]
abbrev f37_l4_C := (Int × Qv0 × (Option Nat))
abbrev f37_l4_X := (Int × List Bool × List Int)
abbrev f37_l4_Y := ((Int × List Bool)) ⊕ ((List Bool × List Int))
noncomputable def f37_l4_con (t : f37_l4_sk.T) : f37_l4_C := (t.1.1, t.2.2.1.1, t.2.2.1.2)
noncomputable def f37_l4_get (t : f37_l4_sk.T) : f37_l4_X := (t.1.2.1, t.2.1.1, t.2.2.2.1.1)
noncomputable def f37_l4_put (c : f37_l4_C) (x : f37_l4_X) : f37_l4_sk.T := ((c.1, (x.1, ())), ((x.2.1, ()), ((c.2.1, c.2.2), ((x.2.2, ()), ()))))
theorem f37_l4_pg (t : f37_l4_sk.T) : f37_l4_put (f37_l4_con t) (f37_l4_get t) = t := by kernel_rfl
noncomputable def f37_l4_w0 (c : f37_l4_C) (y : (Int × List Bool)) : f37_l4_o0.T := ((y.1, ()), ((y.2, ()), ()))
noncomputable def f37_l4_w1 (c : f37_l4_C) (y : (List Bool × List Int)) : f37_l4_o1.T := ((c.1, ()), ((y.1, ()), ((y.2, ()), ())))
noncomputable def f37_l4_out (c : f37_l4_C) (y : f37_l4_Y) : OutV f37_l4_outs := (Sum.elim (fun y => (.inl (f37_l4_w0 c y))) (fun y => (.inr (.inl (f37_l4_w1 c y))))) y
noncomputable def f37_l4_k {R : Type} (a0 : Int) (a1 : Int) (a2 : List Bool) (a3 : Qv0) (a4 : List Int) (kin : f37_l4_X → Option R) (k0 : (Int × List Bool) → Option R) (k1 : (List Bool × List Int) → Option R) : Option R :=
 (cond (a1 != (254 : Int))
 (cond (decide (a1 < (10 : Int)))
  (k0 ((3 : Int), a2))
  (cond (decide (a1 ≥ ((List.length a3.2.2.1 : Nat) : Int)))
   (k0 ((3 : Int), a2))
   ((f42 a3 a1).bind fun r5 =>
    (cond (r5.1.1 == (255 : Int))
    (k0 ((3 : Int), a2))
    (if (0 : Int) ≤ a1 ∧ a1 < ((List.length a2 : Nat) : Int) then (cond (List.getD a2 (Int.toNat a1) false)
     (k0 ((10 : Int), a2))
     (if (List.length a4 + 1) * 8 ≤ most ∧ 0 < 8 ∧ 0 < 1 then (let r6 : List Int := (a4 ++ [a1])
      (if (0 : Int) ≤ a1 ∧ a1 < ((List.length a2 : Nat) : Int) then ((f42 a3 a1).bind fun r7 =>
      (kin (r7.1.1, (List.set a2 (Int.toNat a1) true), r6))) else none)) else none)) else none)))))
 (k1 (a2, a4)))
noncomputable def f37_l4_g (a0 : Int) (a3 : Qv0) (x : f37_l4_X) : Option (f37_l4_X ⊕ f37_l4_Y) := f37_l4_k a0 x.1 x.2.1 a3 x.2.2 (fun x => some (.inl x)) (fun y => some (.inr (.inl y))) (fun y => some (.inr (.inr y)))
noncomputable def f37_l4 (a0 : Int) (a3 : Qv0) (x : f37_l4_X) : Option f37_l4_Y := loopO (f37_l4_g a0 a3) x
noncomputable def f37_l4_nd : Node := { nils := [(8, 143, (.int .i64), .ro)], sk := f37_l4_sk, outs := f37_l4_outs, Y := f37_l4_Y, L := fun t => f37_l4 ((f37_l4_con t).1) ((f37_l4_con t).2.1) (f37_l4_get t), out := fun t y => f37_l4_out (f37_l4_con t) y, disp := fun t y K => (Sum.elim (fun y => K .ret (f37_l4_o0.fill (f37_l4_w0 (f37_l4_con t) y))) (fun y => K (.exit 0) (f37_l4_o1.fill (f37_l4_w1 (f37_l4_con t) y)))) y }
noncomputable def f37_fx : Fx := { E := env, T := [(42, f42_sm)], H := [], O := [], nodes := [((true, 4), f37_l4_nd)] }
noncomputable def f37_l4_b : Code := (loops f37_code).getD 0 .skip
theorem f37_l4_r (c : f37_l4_C) (x : f37_l4_X) : roundS f37_fx f37_l4_b f37_l4_nd (f37_l4_put c x) = f37_l4_k c.1 x.1 x.2.1 c.2.1 x.2.2 (fun x => some (.inl (f37_l4_put c x))) (fun y => some (.inr (.inl (f37_l4_w0 c y)))) (fun y => some (.inr (.inr (.inl (f37_l4_w1 c y))))) := by kernel_rfl
theorem f37_l4_n {R : Type} (a0 : Int) (a1 : Int) (a2 : List Bool) (a3 : Qv0) (a4 : List Int) (kin : f37_l4_X → Option R) (k0 : (Int × List Bool) → Option R) (k1 : (List Bool × List Int) → Option R) : f37_l4_k a0 a1 a2 a3 a4 kin k0 k1 = (f37_l4_g a0 a3 (a1, a2, a4)).bind (Sum.elim kin (Sum.elim k0 k1)) := by
  simp only [f37_l4_g, f37_l4_k, cond_bind, ite_bind, bind_bind, some_bind, none_bind, elim_bind, whenS_bind, Sum.elim_inl, Sum.elim_inr]
theorem f37_l4_ok : LoopOk f37_fx f37_l4_b f37_l4_nd := loop_ok f37_l4_con f37_l4_get f37_l4_put f37_l4_pg (fun c => f37_l4_g c.1 c.2.1) f37_l4_out (fun t y => rfl) (by intro R t y K; rcases y with y | y <;> rfl) (fun c x => by
  refine (f37_l4_r c x).trans ((f37_l4_n _ _ _ _ _ _ _ _).trans ?_)
  first
  | rfl
  | congr 1
    funext s
    rcases s with s | s | s <;> rfl) (fun t => rfl)
noncomputable def f37_k {R : Type} (a0 : Qv0) (a1 : List Int) (a2 : List Bool) (k : (List Int × Int × Unit) × (List Bool × Unit) → Option R) : Option R :=
 (if (0 : Int) ≤ (21 : Int) ∧ (21 : Int) < ((List.length a1 : Nat) : Int) then (let v0 : Int := (IntKind.i64.wrap (List.getD a1 21 (0 : Int)))
 (let v1 : Int := (IntKind.i64.wrap (v0 * 2 ^ (min 8 64)))
 (if (0 : Int) ≤ (22 : Int) ∧ (22 : Int) < ((List.length a1 : Nat) : Int) then (let v2 : Int := (IntKind.i64.wrap (List.getD a1 22 (0 : Int)))
 (let v3 : Int := (IntKind.i64.wrap (v1 + v2))
 (if (0 : Int) ≤ (20 : Int) ∧ (20 : Int) < ((List.length a1 : Nat) : Int) then (let v4 : Int := (IntKind.i64.wrap (List.getD a1 20 (0 : Int)))
 ((f37_l4 v3 a0 (v4, a2, [])).bind fun y8 =>
 ((Sum.elim (fun z9 =>
 (k (([], (z9.1, ())), (z9.2, ()))))
 (fun z10 =>
 (let v11 : Int := (IntKind.i64.wrap (v3 + (128 : Int)))
  (let v12 : Int := (IntKind.i64.wrap (v11 - (1 : Int)))
  (let v13 : Int := (IntKind.i64.wrap (Int.tdiv v12 (128 : Int)))
  (cond (((List.length z10.2 : Nat) : Int) != v13)
  (k (([], ((12 : Int), ())), (z10.1, ())))
  (k ((z10.2, ((0 : Int), ())), (z10.1, ()))))))))) y8))) else none))) else none))) else none)
noncomputable def f37 (a0 : Qv0) (a1 : List Int) (a2 : List Bool) : Option ((List Int × Int × Unit) × (List Bool × Unit)) := f37_k a0 a1 a2 some
noncomputable def f37_sm : Sm := { ps := [.ro Qt2, .ro (.slc (.int .u8)), .row (.slc .bool) (.own .ro)], rs := [((.slc (.int .i64)), (.own .ro)), ((.int .i64), .ro)], F := fun x => f37 x.1 x.2.1 x.2.2.1 }
theorem f37_m (x : ArgT [.ro Qt2, .ro (.slc (.int .u8)), .row (.slc .bool) (.own .ro)]) : codeS f37_fx f37_code (start [.ro Qt2, .ro (.slc (.int .u8)), .row (.slc .bool) (.own .ro)] [] x 64) (finK env [.tmp 6, .tmp 7] [.ro Qt2, .ro (.slc (.int .u8)), .row (.slc .bool) (.own .ro)] [((.slc (.int .i64)), (.own .ro)), ((.int .i64), .ro)]) = f37_k x.1 x.2.1 x.2.2.1 (fun r => some (r, [])) := by kernel_rfl
theorem f37_n {R : Type} (a0 : Qv0) (a1 : List Int) (a2 : List Bool) (k : (List Int × Int × Unit) × (List Bool × Unit) → Option R) : f37_k a0 a1 a2 k = (f37 a0 a1 a2).bind k := by
  simp only [f37, f37_k, cond_bind, ite_bind, bind_bind, some_bind, none_bind, elim_bind, whenS_bind]
theorem f37_ok : SmOk Try.prog 37 f37_sm :=
  sum_of (c := f37_fx) (fn := Try.f37) (code := f37_code) (sm := f37_sm) mixed (env_ok env_envB) (TabsOk.all ⟨f42_c, trivial⟩) Try.func37 (by kernel_rfl)
   ((LoopsOk.of (l := [f37_l4_b]) (by kernel_rfl) ⟨node_is (by kernel_rfl) f37_l4_ok, trivial⟩))
   (no_tails (by kernel_rfl)) rfl
   (fun ks x hl => by
    have hk : ks = [] := List.length_eq_zero_iff.1 hl
    subst hk
    exact (f37_m x).trans (f37_n _ _ _ _))
theorem f37_c : CalOk Try.prog 37 f37_sm := .inl ⟨f37_ok, ⟨Try.f37, Try.func37, by kernel_rfl, by kernel_rfl⟩⟩
noncomputable def f34_code : Code := (Try.f34.body).getD .skip
noncomputable def f34_l6_sk : SkS := ⟨38, [(1, .ptr 16 []), (2, .ref 288 []), (14, .con (.int .i64))], [(16, ⟨some 24, Qt2, .ro, none⟩), (288, ⟨none, (.slc .bool), (.own .ro), none⟩)]⟩
noncomputable def f34_l6_o0 : SkS := ⟨55, [(2, .con (.int .i64))], []⟩
noncomputable def f34_l6_o1 : SkS := ⟨53, [(1, .ptr 16 []), (2, .ref 288 [])], [(16, ⟨some 24, Qt2, .ro, none⟩), (288, ⟨none, (.slc .bool), (.own .ro), none⟩)]⟩
noncomputable def f34_l6_outs : List Way := [⟨.ret, [], f34_l6_o0⟩, ⟨(.exit 0), [], f34_l6_o1⟩]
abbrev f34_l6_C := (Qv0 × (Option Nat))
abbrev f34_l6_X := (Int × List Bool)
abbrev f34_l6_Y := (Int) ⊕ (List Bool)
noncomputable def f34_l6_con (t : f34_l6_sk.T) : f34_l6_C := (t.2.1.1, t.2.1.2)
noncomputable def f34_l6_get (t : f34_l6_sk.T) : f34_l6_X := (t.1.1, t.2.2.1.1)
noncomputable def f34_l6_put (c : f34_l6_C) (x : f34_l6_X) : f34_l6_sk.T := ((x.1, ()), ((c.1, c.2), ((x.2, ()), ())))
theorem f34_l6_pg (t : f34_l6_sk.T) : f34_l6_put (f34_l6_con t) (f34_l6_get t) = t := by kernel_rfl
noncomputable def f34_l6_w0 (c : f34_l6_C) (y : Int) : f34_l6_o0.T := ((y, ()), ())
noncomputable def f34_l6_w1 (c : f34_l6_C) (y : List Bool) : f34_l6_o1.T := ((), ((c.1, c.2), ((y, ()), ())))
noncomputable def f34_l6_out (c : f34_l6_C) (y : f34_l6_Y) : OutV f34_l6_outs := (Sum.elim (fun y => (.inl (f34_l6_w0 c y))) (fun y => (.inr (.inl (f34_l6_w1 c y))))) y
noncomputable def f34_l6_k {R : Type} (a0 : Int) (a1 : Qv0) (a2 : List Bool) (kin : f34_l6_X → Option R) (k0 : Int → Option R) (k1 : List Bool → Option R) : Option R :=
 (cond (decide (a0 < (32 : Int)))
 ((f38 a1 a0).bind fun r1 =>
  (if (0 : Int) ≤ (0 : Int) ∧ (0 : Int) < ((List.length r1.1.1 : Nat) : Int) then (cond ((List.getD r1.1.1 0 (0 : Int)) != (0 : Int))
  ((f37 a1 r1.1.1 a2).bind fun r2 =>
   (cond (r2.1.2.1 != (0 : Int))
   (k0 r2.1.2.1)
   (let v3 : Int := (IntKind.i64.wrap (a0 + (1 : Int)))
    (kin (v3, r2.2.1)))))
  (let v4 : Int := (IntKind.i64.wrap (a0 + (1 : Int)))
   (kin (v4, a2)))) else none))
 (k1 a2))
noncomputable def f34_l6_g (a1 : Qv0) (x : f34_l6_X) : Option (f34_l6_X ⊕ f34_l6_Y) := f34_l6_k x.1 a1 x.2 (fun x => some (.inl x)) (fun y => some (.inr (.inl y))) (fun y => some (.inr (.inr y)))
noncomputable def f34_l6 (a1 : Qv0) (x : f34_l6_X) : Option f34_l6_Y := loopO (f34_l6_g a1) x
noncomputable def f34_l6_nd : Node := { nils := [], sk := f34_l6_sk, outs := f34_l6_outs, Y := f34_l6_Y, L := fun t => f34_l6 ((f34_l6_con t).1) (f34_l6_get t), out := fun t y => f34_l6_out (f34_l6_con t) y, disp := fun t y K => (Sum.elim (fun y => K .ret (f34_l6_o0.fill (f34_l6_w0 (f34_l6_con t) y))) (fun y => K (.exit 0) (f34_l6_o1.fill (f34_l6_w1 (f34_l6_con t) y)))) y }
noncomputable def f34_l15_sk : SkS := ⟨48, [(1, .ptr 16 []), (2, .ref 288 []), (4, .con (.int .i64))], [(16, ⟨some 24, Qt2, .ro, none⟩), (288, ⟨none, (.slc .bool), (.own .ro), none⟩)]⟩
noncomputable def f34_l15_o0 : SkS := ⟨55, [(2, .con (.int .i64))], []⟩
noncomputable def f34_l15_o1 : SkS := ⟨58, [], []⟩
noncomputable def f34_l15_outs : List Way := [⟨.ret, [], f34_l15_o0⟩, ⟨(.exit 2), [], f34_l15_o1⟩]
abbrev f34_l15_C := (Qv0 × List Bool × (Option Nat))
abbrev f34_l15_X := Int
abbrev f34_l15_Y := (Unit) ⊕ (Unit)
noncomputable def f34_l15_con (t : f34_l15_sk.T) : f34_l15_C := (t.2.1.1, t.2.2.1.1, t.2.1.2)
noncomputable def f34_l15_get (t : f34_l15_sk.T) : f34_l15_X := t.1.1
noncomputable def f34_l15_put (c : f34_l15_C) (x : f34_l15_X) : f34_l15_sk.T := ((x, ()), ((c.1, c.2.2), ((c.2.1, ()), ())))
theorem f34_l15_pg (t : f34_l15_sk.T) : f34_l15_put (f34_l15_con t) (f34_l15_get t) = t := by kernel_rfl
noncomputable def f34_l15_w0 (c : f34_l15_C) (y : Unit) : f34_l15_o0.T := (((7 : Int), ()), ())
noncomputable def f34_l15_w1 (c : f34_l15_C) (y : Unit) : f34_l15_o1.T := ((), ())
noncomputable def f34_l15_out (c : f34_l15_C) (y : f34_l15_Y) : OutV f34_l15_outs := (Sum.elim (fun y => (.inl (f34_l15_w0 c y))) (fun y => (.inr (.inl (f34_l15_w1 c y))))) y
noncomputable def f34_l15_k {R : Type} (a0 : Int) (a1 : Qv0) (a2 : List Bool) (kin : f34_l15_X → Option R) (k0 : Unit → Option R) (k1 : Unit → Option R) : Option R :=
 (cond (decide (a0 < ((List.length a1.2.2.1 : Nat) : Int)))
 (if (0 : Int) ≤ a0 ∧ a0 < ((List.length a2 : Nat) : Int) then (cond (!(List.getD a2 (Int.toNat a0) false))
  ((f42 a1 a0).bind fun r8 =>
   (cond (r8.1.1 != (255 : Int))
   (k0 ())
   (let v9 : Int := (IntKind.i64.wrap (a0 + (1 : Int)))
    (kin v9))))
  (let v10 : Int := (IntKind.i64.wrap (a0 + (1 : Int)))
   (kin v10))) else none)
 (k1 ()))
noncomputable def f34_l15_g (a1 : Qv0) (a2 : List Bool) (x : f34_l15_X) : Option (f34_l15_X ⊕ f34_l15_Y) := f34_l15_k x a1 a2 (fun x => some (.inl x)) (fun y => some (.inr (.inl y))) (fun y => some (.inr (.inr y)))
noncomputable def f34_l15 (a1 : Qv0) (a2 : List Bool) (x : f34_l15_X) : Option f34_l15_Y := loopO (f34_l15_g a1 a2) x
noncomputable def f34_l15_nd : Node := { nils := [], sk := f34_l15_sk, outs := f34_l15_outs, Y := f34_l15_Y, L := fun t => f34_l15 ((f34_l15_con t).1) ((f34_l15_con t).2.1) (f34_l15_get t), out := fun t y => f34_l15_out (f34_l15_con t) y, disp := fun t y K => (Sum.elim (fun y => K .ret (f34_l15_o0.fill (f34_l15_w0 (f34_l15_con t) y))) (fun y => K (.exit 2) (f34_l15_o1.fill (f34_l15_w1 (f34_l15_con t) y)))) y }
noncomputable def f34_fx : Fx := { E := env, T := [(68, f68_sm), (38, f38_sm), (37, f37_sm), (42, f42_sm)], H := [], O := [], nodes := [((true, 6), f34_l6_nd), ((true, 15), f34_l15_nd)] }
noncomputable def f34_l6_b : Code := (loops f34_code).getD 0 .skip
theorem f34_l6_r (c : f34_l6_C) (x : f34_l6_X) : roundS f34_fx f34_l6_b f34_l6_nd (f34_l6_put c x) = f34_l6_k x.1 c.1 x.2 (fun x => some (.inl (f34_l6_put c x))) (fun y => some (.inr (.inl (f34_l6_w0 c y)))) (fun y => some (.inr (.inr (.inl (f34_l6_w1 c y))))) := by kernel_rfl
theorem f34_l6_n {R : Type} (a0 : Int) (a1 : Qv0) (a2 : List Bool) (kin : f34_l6_X → Option R) (k0 : Int → Option R) (k1 : List Bool → Option R) : f34_l6_k a0 a1 a2 kin k0 k1 = (f34_l6_g a1 (a0, a2)).bind (Sum.elim kin (Sum.elim k0 k1)) := by
  simp only [f34_l6_g, f34_l6_k, cond_bind, ite_bind, bind_bind, some_bind, none_bind, elim_bind, whenS_bind, Sum.elim_inl, Sum.elim_inr]
theorem f34_l6_ok : LoopOk f34_fx f34_l6_b f34_l6_nd := loop_ok f34_l6_con f34_l6_get f34_l6_put f34_l6_pg (fun c => f34_l6_g c.1) f34_l6_out (fun t y => rfl) (by intro R t y K; rcases y with y | y <;> rfl) (fun c x => by
  refine (f34_l6_r c x).trans ((f34_l6_n _ _ _ _ _ _).trans ?_)
  first
  | rfl
  | congr 1
    funext s
    rcases s with s | s | s <;> rfl) (fun t => rfl)
noncomputable def f34_l15_b : Code := (loops f34_code).getD 1 .skip
theorem f34_l15_r (c : f34_l15_C) (x : f34_l15_X) : roundS f34_fx f34_l15_b f34_l15_nd (f34_l15_put c x) = f34_l15_k x c.1 c.2.1 (fun x => some (.inl (f34_l15_put c x))) (fun y => some (.inr (.inl (f34_l15_w0 c y)))) (fun y => some (.inr (.inr (.inl (f34_l15_w1 c y))))) := by kernel_rfl
theorem f34_l15_n {R : Type} (a0 : Int) (a1 : Qv0) (a2 : List Bool) (kin : f34_l15_X → Option R) (k0 : Unit → Option R) (k1 : Unit → Option R) : f34_l15_k a0 a1 a2 kin k0 k1 = (f34_l15_g a1 a2 a0).bind (Sum.elim kin (Sum.elim k0 k1)) := by
  simp only [f34_l15_g, f34_l15_k, cond_bind, ite_bind, bind_bind, some_bind, none_bind, elim_bind, whenS_bind, Sum.elim_inl, Sum.elim_inr]
theorem f34_l15_ok : LoopOk f34_fx f34_l15_b f34_l15_nd := loop_ok f34_l15_con f34_l15_get f34_l15_put f34_l15_pg (fun c => f34_l15_g c.1 c.2.1) f34_l15_out (fun t y => rfl) (by intro R t y K; rcases y with y | y <;> rfl) (fun c x => by
  refine (f34_l15_r c x).trans ((f34_l15_n _ _ _ _ _ _).trans ?_)
  first
  | rfl
  | congr 1
    funext s
    rcases s with s | s | s <;> rfl) (fun t => rfl)
noncomputable def f34_k {R : Type} (a0 : Qv0) (k : (Int × Unit) × (Unit) → Option R) : Option R :=
 ((f68 a0).bind fun r0 =>
 (cond (r0.1.1 != (0 : Int))
 (k ((r0.1.1, ()), ()))
 (if (0 : Int) ≤ ((List.length a0.2.2.1 : Nat) : Int) ∧ ((List.length a0.2.2.1 : Nat) : Int) ≤ ((List.length a0.2.2.1 : Nat) : Int) ∧ ((List.length a0.2.2.1 : Nat) : Int) * 1 ≤ (most : Int) ∧ 0 < 1 ∧ 0 < 1 then ((f34_l6 a0 ((0 : Int), (List.replicate (Int.toNat ((List.length a0.2.2.1 : Nat) : Int)) false))).bind fun y5 =>
  ((Sum.elim (fun z6 =>
  (k ((z6, ()), ())))
  (fun z7 =>
  ((f34_l15 a0 z7 (10 : Int)).bind fun y11 =>
   ((Sum.elim (fun z12 =>
   (k (((7 : Int), ()), ())))
   (fun z13 =>
   (k (((0 : Int), ()), ())))) y11)))) y5)) else none)))
noncomputable def f34 (a0 : Qv0) : Option ((Int × Unit) × (Unit)) := f34_k a0 some
noncomputable def f34_sm : Sm := { ps := [.ro Qt2], rs := [((.int .i64), .ro)], F := fun x => f34 x.1 }
theorem f34_m (x : ArgT [.ro Qt2]) : codeS f34_fx f34_code (start [.ro Qt2] [] x 58) (finK env [.tmp 2] [.ro Qt2] [((.int .i64), .ro)]) = f34_k x.1 (fun r => some (r, [])) := by kernel_rfl
theorem f34_n {R : Type} (a0 : Qv0) (k : (Int × Unit) × (Unit) → Option R) : f34_k a0 k = (f34 a0).bind k := by
  simp only [f34, f34_k, cond_bind, ite_bind, bind_bind, some_bind, none_bind, elim_bind, whenS_bind]
theorem f34_ok : SmOk Try.prog 34 f34_sm :=
  sum_of (c := f34_fx) (fn := Try.f34) (code := f34_code) (sm := f34_sm) mixed (env_ok env_envB) (TabsOk.all ⟨f68_c, f38_c, f37_c, f42_c, trivial⟩) Try.func34 (by kernel_rfl)
   ((LoopsOk.of (l := [f34_l6_b, f34_l15_b]) (by kernel_rfl) ⟨node_is (by kernel_rfl) f34_l6_ok, node_is (by kernel_rfl) f34_l15_ok, trivial⟩))
   (no_tails (by kernel_rfl)) rfl
   (fun ks x hl => by
    have hk : ks = [] := List.length_eq_zero_iff.1 hl
    subst hk
    exact (f34_m x).trans (f34_n _ _))
theorem f34_c : CalOk Try.prog 34 f34_sm := .inl ⟨f34_ok, ⟨Try.f34, Try.func34, by kernel_rfl, by kernel_rfl⟩⟩
noncomputable def f35_code : Code := (Try.f35.body).getD .skip
noncomputable def f35_l2_sk : SkS := ⟨17, [(1, .con .str), (0, .ptr 32 []), (4, .con (.int .i64))], [(32, ⟨some 24, Qt2, .ro, none⟩)]⟩
noncomputable def f35_l2_o0 : SkS := ⟨20, [(4, .con (.int .i64))], []⟩
noncomputable def f35_l2_o1 : SkS := ⟨25, [], []⟩
noncomputable def f35_l2_outs : List Way := [⟨.ret, [], f35_l2_o0⟩, ⟨(.exit 0), [], f35_l2_o1⟩]
abbrev f35_l2_C := (ByteArray × Qv0 × (Option Nat))
abbrev f35_l2_X := Int
abbrev f35_l2_Y := (Int) ⊕ (Unit)
noncomputable def f35_l2_con (t : f35_l2_sk.T) : f35_l2_C := (t.1.1, t.2.1.1, t.2.1.2)
noncomputable def f35_l2_get (t : f35_l2_sk.T) : f35_l2_X := t.1.2.1
noncomputable def f35_l2_put (c : f35_l2_C) (x : f35_l2_X) : f35_l2_sk.T := ((c.1, (x, ())), ((c.2.1, c.2.2), ()))
theorem f35_l2_pg (t : f35_l2_sk.T) : f35_l2_put (f35_l2_con t) (f35_l2_get t) = t := by kernel_rfl
noncomputable def f35_l2_w0 (c : f35_l2_C) (y : Int) : f35_l2_o0.T := ((y, ()), ())
noncomputable def f35_l2_w1 (c : f35_l2_C) (y : Unit) : f35_l2_o1.T := ((), ())
noncomputable def f35_l2_out (c : f35_l2_C) (y : f35_l2_Y) : OutV f35_l2_outs := (Sum.elim (fun y => (.inl (f35_l2_w0 c y))) (fun y => (.inr (.inl (f35_l2_w1 c y))))) y
noncomputable def f35_l2_k {R : Type} (a0 : ByteArray) (a1 : Int) (a2 : Qv0) (kin : f35_l2_X → Option R) (k0 : Int → Option R) (k1 : Unit → Option R) : Option R :=
 (cond (decide (a1 < (32 : Int)))
 ((f38 a2 a1).bind fun r0 =>
  (if (0 : Int) ≤ (0 : Int) ∧ (0 : Int) < ((List.length r0.1.1 : Nat) : Int) then (cond ((List.getD r0.1.1 0 (0 : Int)) != (0 : Int))
  ((f69 r0.1.1).bind fun r1 =>
   (cond (strEq r1.1.1 a0)
   (k0 a1)
   (let v2 : Int := (IntKind.i64.wrap (a1 + (1 : Int)))
    (kin v2))))
  (let v3 : Int := (IntKind.i64.wrap (a1 + (1 : Int)))
   (kin v3))) else none))
 (k1 ()))
noncomputable def f35_l2_g (a0 : ByteArray) (a2 : Qv0) (x : f35_l2_X) : Option (f35_l2_X ⊕ f35_l2_Y) := f35_l2_k a0 x a2 (fun x => some (.inl x)) (fun y => some (.inr (.inl y))) (fun y => some (.inr (.inr y)))
noncomputable def f35_l2 (a0 : ByteArray) (a2 : Qv0) (x : f35_l2_X) : Option f35_l2_Y := loopO (f35_l2_g a0 a2) x
noncomputable def f35_l2_nd : Node := { nils := [], sk := f35_l2_sk, outs := f35_l2_outs, Y := f35_l2_Y, L := fun t => f35_l2 ((f35_l2_con t).1) ((f35_l2_con t).2.1) (f35_l2_get t), out := fun t y => f35_l2_out (f35_l2_con t) y, disp := fun t y K => (Sum.elim (fun y => K .ret (f35_l2_o0.fill (f35_l2_w0 (f35_l2_con t) y))) (fun y => K (.exit 0) (f35_l2_o1.fill (f35_l2_w1 (f35_l2_con t) y)))) y }
noncomputable def f35_fx : Fx := { E := env, T := [(38, f38_sm), (69, f69_sm)], H := [], O := [], nodes := [((true, 2), f35_l2_nd)] }
noncomputable def f35_l2_b : Code := (loops f35_code).getD 0 .skip
theorem f35_l2_r (c : f35_l2_C) (x : f35_l2_X) : roundS f35_fx f35_l2_b f35_l2_nd (f35_l2_put c x) = f35_l2_k c.1 x c.2.1 (fun x => some (.inl (f35_l2_put c x))) (fun y => some (.inr (.inl (f35_l2_w0 c y)))) (fun y => some (.inr (.inr (.inl (f35_l2_w1 c y))))) := by kernel_rfl
theorem f35_l2_n {R : Type} (a0 : ByteArray) (a1 : Int) (a2 : Qv0) (kin : f35_l2_X → Option R) (k0 : Int → Option R) (k1 : Unit → Option R) : f35_l2_k a0 a1 a2 kin k0 k1 = (f35_l2_g a0 a2 a1).bind (Sum.elim kin (Sum.elim k0 k1)) := by
  simp only [f35_l2_g, f35_l2_k, cond_bind, ite_bind, bind_bind, some_bind, none_bind, elim_bind, whenS_bind, Sum.elim_inl, Sum.elim_inr]
theorem f35_l2_ok : LoopOk f35_fx f35_l2_b f35_l2_nd := loop_ok f35_l2_con f35_l2_get f35_l2_put f35_l2_pg (fun c => f35_l2_g c.1 c.2.1) f35_l2_out (fun t y => rfl) (by intro R t y K; rcases y with y | y <;> rfl) (fun c x => by
  refine (f35_l2_r c x).trans ((f35_l2_n _ _ _ _ _ _).trans ?_)
  first
  | rfl
  | congr 1
    funext s
    rcases s with s | s | s <;> rfl) (fun t => rfl)
noncomputable def f35_k {R : Type} (a0 : Qv0) (a1 : ByteArray) (k : (Int × Unit) × (Unit) → Option R) : Option R :=
 ((f35_l2 a1 a0 (0 : Int)).bind fun y4 =>
 ((Sum.elim (fun z5 =>
 (k ((z5, ()), ())))
 (fun z6 =>
 (k (((-1 : Int), ()), ())))) y4))
noncomputable def f35 (a0 : Qv0) (a1 : ByteArray) : Option ((Int × Unit) × (Unit)) := f35_k a0 a1 some
noncomputable def f35_sm : Sm := { ps := [.ro Qt2, .ro .str], rs := [((.int .i64), .ro)], F := fun x => f35 x.1 x.2.1 }
theorem f35_m (x : ArgT [.ro Qt2, .ro .str]) : codeS f35_fx f35_code (start [.ro Qt2, .ro .str] [] x 25) (finK env [.tmp 4] [.ro Qt2, .ro .str] [((.int .i64), .ro)]) = f35_k x.1 x.2.1 (fun r => some (r, [])) := by kernel_rfl
theorem f35_n {R : Type} (a0 : Qv0) (a1 : ByteArray) (k : (Int × Unit) × (Unit) → Option R) : f35_k a0 a1 k = (f35 a0 a1).bind k := by
  simp only [f35, f35_k, cond_bind, ite_bind, bind_bind, some_bind, none_bind, elim_bind, whenS_bind]
theorem f35_ok : SmOk Try.prog 35 f35_sm :=
  sum_of (c := f35_fx) (fn := Try.f35) (code := f35_code) (sm := f35_sm) mixed (env_ok env_envB) (TabsOk.all ⟨f38_c, f69_c, trivial⟩) Try.func35 (by kernel_rfl)
   ((LoopsOk.of (l := [f35_l2_b]) (by kernel_rfl) ⟨node_is (by kernel_rfl) f35_l2_ok, trivial⟩))
   (no_tails (by kernel_rfl)) rfl
   (fun ks x hl => by
    have hk : ks = [] := List.length_eq_zero_iff.1 hl
    subst hk
    exact (f35_m x).trans (f35_n _ _ _))
theorem f35_c : CalOk Try.prog 35 f35_sm := .inl ⟨f35_ok, ⟨Try.f35, Try.func35, by kernel_rfl, by kernel_rfl⟩⟩
noncomputable def f38x1_code : Code := (Try.f38.body).getD .skip
noncomputable def f38x1_fx : Fx := { E := env, T := [], H := [], O := [], nodes := [] }
noncomputable def f38x1_k {R : Type} (a0 : Qv0) (a1 : Int) (k : (Int × Int × Int × Unit) × ((Unit × (Unit × (List (List Int) × Unit))) × Unit) → Option R) : Option R :=
 (let v0 : Int := (IntKind.i64.wrap (Int.tdiv a1 (4 : Int)))
 (let v1 : Int := (IntKind.i64.wrap ((2 : Int) + v0))
 (if (0 : Int) ≤ v1 ∧ v1 < ((List.length a0.2.2.1 : Nat) : Int) then (let v2 : Int := (IntKind.i64.wrap ((Int.tmod a1 (4 : Int)) * (32 : Int)))
 (let v3 : Int := (IntKind.i64.wrap ((Int.tmod a1 (4 : Int)) * (32 : Int)))
 (let v4 : Int := (IntKind.i64.wrap (v3 + (32 : Int)))
 (if (0 : Int) ≤ v2 ∧ v2 ≤ v4 ∧ v4 ≤ ((List.length (List.getD a0.2.2.1 (Int.toNat v1) ([] : List Int)) : Nat) : Int) then (k ((((((Int.toNat v1)) : Nat) : Int), ((((Int.toNat v2)) : Nat) : Int), (((((Int.toNat v4) - (Int.toNat v2))) : Nat) : Int), ()), (((), ((), (a0.2.2.1, ()))), ()))) else none)))) else none)))
noncomputable def f38x1 (a0 : Qv0) (a1 : Int) : Option ((Int × Int × Int × Unit) × ((Unit × (Unit × (List (List Int) × Unit))) × Unit)) := f38x1_k a0 a1 some
noncomputable def f38x1_sm : Sm := { ps := [.row Qt2 Qt3, .ro (.int .i64)], rs := [((.int .i64), .ro), ((.int .i64), .ro), ((.int .i64), .ro)], F := fun x => f38x1 x.1 x.2.1, part := true }
theorem f38x1_m (x : ArgT [.row Qt2 Qt3, .ro (.int .i64)]) : codeS f38x1_fx f38x1_code (start [.row Qt2 Qt3, .ro (.int .i64)] [] x 22) (finPK env [.tmp 4] [.row Qt2 Qt3, .ro (.int .i64)] [((.int .i64), .ro), ((.int .i64), .ro), ((.int .i64), .ro)]) = f38x1_k x.1 x.2.1 (fun r => some (r, [])) := by kernel_rfl
theorem f38x1_n {R : Type} (a0 : Qv0) (a1 : Int) (k : (Int × Int × Int × Unit) × ((Unit × (Unit × (List (List Int) × Unit))) × Unit) → Option R) : f38x1_k a0 a1 k = (f38x1 a0 a1).bind k := by
  simp only [f38x1, f38x1_k, cond_bind, ite_bind, bind_bind, some_bind, none_bind, elim_bind, whenS_bind]
theorem f38x1_ok : SmOk Try.prog 38 f38x1_sm :=
  sumP_of (c := f38x1_fx) (fn := Try.f38) (code := f38x1_code) (sm := f38x1_sm) mixed (env_ok env_envB) (TabsOk.all trivial) Try.func38 (by kernel_rfl)
   ((LoopsOk.of (l := []) (by kernel_rfl) trivial))
   (no_tails (by kernel_rfl)) rfl
   (fun ks x hl => by
    have hk : ks = [] := List.length_eq_zero_iff.1 hl
    subst hk
    exact (f38x1_m x).trans (f38x1_n _ _ _))
theorem f38x1_c : CalOk Try.prog 38 f38x1_sm := .inl ⟨f38x1_ok, ⟨Try.f38, Try.func38, by kernel_rfl, by kernel_rfl⟩⟩
noncomputable def f39_code : Code := (Try.f39.body).getD .skip
noncomputable def f39_fx : Fx := { E := env, T := [], H := [], O := [], nodes := [] }
noncomputable def f39_k {R : Type} (a0 : Qv0) (a1 : Int) (a2 : Int) (k : (Unit) × ((Unit × (Unit × (List (List Int) × Unit))) × Unit) → Option R) : Option R :=
 (let v0 : Int := (IntKind.i64.wrap (Int.tdiv a1 (128 : Int)))
 (if (0 : Int) ≤ v0 ∧ v0 < ((List.length a0.2.2.1 : Nat) : Int) then (let v1 : Int := (Int.tmod a1 (128 : Int))
 (if (0 : Int) ≤ v1 ∧ v1 < ((List.length (List.getD a0.2.2.1 (Int.toNat v0) ([] : List Int)) : Nat) : Int) then (k ((), (((), ((), ((List.set a0.2.2.1 (Int.toNat v0) (List.set (List.getD a0.2.2.1 (Int.toNat v0) ([] : List Int)) (Int.toNat v1) (IntKind.u8.wrap a2))), ()))), ()))) else none)) else none))
noncomputable def f39 (a0 : Qv0) (a1 : Int) (a2 : Int) : Option ((Unit) × ((Unit × (Unit × (List (List Int) × Unit))) × Unit)) := f39_k a0 a1 a2 some
noncomputable def f39_sm : Sm := { ps := [.row Qt2 Qt3, .ro (.int .i64), .ro (.int .i64)], rs := [], F := fun x => f39 x.1 x.2.1 x.2.2.1 }
theorem f39_m (x : ArgT [.row Qt2 Qt3, .ro (.int .i64), .ro (.int .i64)]) : codeS f39_fx f39_code (start [.row Qt2 Qt3, .ro (.int .i64), .ro (.int .i64)] [] x 17) (finK env [] [.row Qt2 Qt3, .ro (.int .i64), .ro (.int .i64)] []) = f39_k x.1 x.2.1 x.2.2.1 (fun r => some (r, [])) := by kernel_rfl
theorem f39_n {R : Type} (a0 : Qv0) (a1 : Int) (a2 : Int) (k : (Unit) × ((Unit × (Unit × (List (List Int) × Unit))) × Unit) → Option R) : f39_k a0 a1 a2 k = (f39 a0 a1 a2).bind k := by
  simp only [f39, f39_k, cond_bind, ite_bind, bind_bind, some_bind, none_bind, elim_bind, whenS_bind]
theorem f39_ok : SmOk Try.prog 39 f39_sm :=
  sum_of (c := f39_fx) (fn := Try.f39) (code := f39_code) (sm := f39_sm) mixed (env_ok env_envB) (TabsOk.all trivial) Try.func39 (by kernel_rfl)
   ((LoopsOk.of (l := []) (by kernel_rfl) trivial))
   (no_tails (by kernel_rfl)) rfl
   (fun ks x hl => by
    have hk : ks = [] := List.length_eq_zero_iff.1 hl
    subst hk
    exact (f39_m x).trans (f39_n _ _ _ _))
theorem f39_c : CalOk Try.prog 39 f39_sm := .inl ⟨f39_ok, ⟨Try.f39, Try.func39, by kernel_rfl, by kernel_rfl⟩⟩
noncomputable def f14_code : Code := (Try.f14.body).getD .skip
noncomputable def f14_l10_sk : SkS := ⟨11, [(2, .ptr 32 []), (1, .ptr 64 []), (2, .con (.int .i64)), (30, .ref 560 []), (0, .con (.int .i64)), (0, .con (.int .i64))], [(32, ⟨some 24, Qt2, Qt3, none⟩), (64, ⟨some 24, Qt2, Qt3, none⟩), (560, ⟨none, (.slc (.int .i64)), (.own .ro), none⟩)]⟩
noncomputable def f14_l10_o0 : SkS := ⟨44, [(2, .ptr 32 []), (1, .ptr 64 []), (2, .con (.int .i64))], [(32, ⟨some 24, Qt2, Qt3, none⟩), (64, ⟨some 24, Qt2, Qt3, none⟩)]⟩
noncomputable def f14_l10_outs : List Way := [⟨(.exit 0), [], f14_l10_o0⟩]
abbrev f14_l10_C := (Int × Int × Qv0 × List Int × (Option Nat) × (Option Nat))
abbrev f14_l10_X := (Int × Qv0)
abbrev f14_l10_Y := (Qv0)
noncomputable def f14_l10_con (t : f14_l10_sk.T) : f14_l10_C := (t.1.1, t.1.2.1, t.2.2.1.1, t.2.2.2.1.1, t.2.1.2, t.2.2.1.2)
noncomputable def f14_l10_get (t : f14_l10_sk.T) : f14_l10_X := (t.1.2.2.1, t.2.1.1)
noncomputable def f14_l10_put (c : f14_l10_C) (x : f14_l10_X) : f14_l10_sk.T := ((c.1, (c.2.1, (x.1, ()))), ((x.2, c.2.2.2.2.1), ((c.2.2.1, c.2.2.2.2.2), ((c.2.2.2.1, ()), ()))))
theorem f14_l10_pg (t : f14_l10_sk.T) : f14_l10_put (f14_l10_con t) (f14_l10_get t) = t := by kernel_rfl
noncomputable def f14_l10_w0 (c : f14_l10_C) (y : Qv0) : f14_l10_o0.T := ((c.1, ()), ((y, c.2.2.2.2.1), ((c.2.2.1, c.2.2.2.2.2), ())))
noncomputable def f14_l10_out (c : f14_l10_C) (y : f14_l10_Y) : OutV f14_l10_outs := (fun y => (.inl (f14_l10_w0 c y))) y
noncomputable def f14_l10_k {R : Type} (a0 : Int) (a1 : Int) (a2 : Int) (a3 : Qv0) (a4 : Qv0) (a5 : List Int) (kin : f14_l10_X → Option R) (k0 : Qv0 → Option R) : Option R :=
 (cond (decide (a2 < a1))
 (if (0 : Int) ≤ a2 ∧ a2 < ((List.length a5 : Nat) : Int) then ((f39 a3 (List.getD a5 (Int.toNat a2) (0 : Int)) (255 : Int)).bind fun r5 =>
  (let v6 : Int := (IntKind.i64.wrap (a2 + (1 : Int)))
  (kin (v6, (a3.1, (a3.2.1, (r5.2.1.2.2.1, a3.2.2.2))))))) else none)
 (k0 a3))
noncomputable def f14_l10_g (a0 : Int) (a1 : Int) (a4 : Qv0) (a5 : List Int) (x : f14_l10_X) : Option (f14_l10_X ⊕ f14_l10_Y) := f14_l10_k a0 a1 x.1 x.2 a4 a5 (fun x => some (.inl x)) (fun y => some (.inr y))
noncomputable def f14_l10 (a0 : Int) (a1 : Int) (a4 : Qv0) (a5 : List Int) (x : f14_l10_X) : Option f14_l10_Y := loopO (f14_l10_g a0 a1 a4 a5) x
noncomputable def f14_l10_nd : Node := { nils := [], sk := f14_l10_sk, outs := f14_l10_outs, Y := f14_l10_Y, L := fun t => f14_l10 ((f14_l10_con t).1) ((f14_l10_con t).2.1) ((f14_l10_con t).2.2.1) ((f14_l10_con t).2.2.2.1) (f14_l10_get t), out := fun t y => f14_l10_out (f14_l10_con t) y, disp := fun t y K => (fun y => K (.exit 0) (f14_l10_o0.fill (f14_l10_w0 (f14_l10_con t) y))) y }
noncomputable def f14_fx : Fx := { E := env, T := [(34, f34_sm), (35, f35_sm), (36, f36_sm), (38, f38x1_sm), (37, f37_sm), (39, f39_sm)], H := [(4, Qt3)], O := [(30, [2]), (2000008, [0, 2])], nodes := [((true, 10), f14_l10_nd)] }
noncomputable def f14_l10_b : Code := (loops f14_code).getD 0 .skip
theorem f14_l10_r (c : f14_l10_C) (x : f14_l10_X) : roundS f14_fx f14_l10_b f14_l10_nd (f14_l10_put c x) = f14_l10_k c.1 c.2.1 x.1 x.2 c.2.2.1 c.2.2.2.1 (fun x => some (.inl (f14_l10_put c x))) (fun y => some (.inr (.inl (f14_l10_w0 c y)))) := by kernel_rfl
theorem f14_l10_n {R : Type} (a0 : Int) (a1 : Int) (a2 : Int) (a3 : Qv0) (a4 : Qv0) (a5 : List Int) (kin : f14_l10_X → Option R) (k0 : Qv0 → Option R) : f14_l10_k a0 a1 a2 a3 a4 a5 kin k0 = (f14_l10_g a0 a1 a4 a5 (a2, a3)).bind (Sum.elim kin k0) := by
  simp only [f14_l10_g, f14_l10_k, cond_bind, ite_bind, bind_bind, some_bind, none_bind, elim_bind, whenS_bind, Sum.elim_inl, Sum.elim_inr]
theorem f14_l10_ok : LoopOk f14_fx f14_l10_b f14_l10_nd := loop_ok f14_l10_con f14_l10_get f14_l10_put f14_l10_pg (fun c => f14_l10_g c.1 c.2.1 c.2.2.1 c.2.2.2.1) f14_l10_out (fun t y => rfl) (fun t y K => rfl) (fun c x => by
  refine (f14_l10_r c x).trans ((f14_l10_n _ _ _ _ _ _ _ _).trans ?_)
  first
  | rfl
  | congr 1
    funext s
    rcases s with s | s <;> rfl) (fun t => rfl)
noncomputable def f14_k {R : Type} (a0 : Qv0) (a1 : ByteArray) (k : (Qv0 × Int × Unit) × (Unit) → Option R) : Option R :=
 ((f34 a0).bind fun r0 =>
 (cond (r0.1.1 != (0 : Int))
 (k ((((0 : Int), ((0 : Int), ([], ()))), (r0.1.1, ())), ()))
 ((f35 a0 a1).bind fun r1 =>
  (cond (decide (r1.1.1 < (0 : Int)))
  (k ((((0 : Int), ((0 : Int), ([], ()))), ((4 : Int), ())), ()))
  ((f36 a0).bind fun r2 =>
   ((f38x1 r2.1.1 r1.1.1).bind fun r3 =>
   (whenS (rowsOf (Qt2) (Qt3) r2.1.1 = r3.2.1) (if (Int.toNat r3.1.1) < List.length r3.2.1.2.2.1 then (if (0 : Int) ≤ ((List.length r3.2.1.2.2.1 : Nat) : Int) ∧ ((List.length r3.2.1.2.2.1 : Nat) : Int) ≤ ((List.length r3.2.1.2.2.1 : Nat) : Int) ∧ ((List.length r3.2.1.2.2.1 : Nat) : Int) * 1 ≤ (most : Int) ∧ 0 < 1 ∧ 0 < 1 then ((f37 (r2.1.1.1, (r2.1.1.2.1, (r3.2.1.2.2.1, r2.1.1.2.2.2))) (List.take (Int.toNat r3.1.2.2.1) (List.drop (Int.toNat r3.1.2.1) (List.getD r3.2.1.2.2.1 (Int.toNat r3.1.1) ([] : List Int)))) (List.replicate (Int.toNat ((List.length r3.2.1.2.2.1 : Nat) : Int)) false)).bind fun r4 =>
   ((f14_l10 r1.1.1 ((List.length r4.1.1 : Nat) : Int) ((0 : Int), ((0 : Int), (([] : List (List Int)), ()))) r4.1.1 ((0 : Int), (r2.1.1.1, (r2.1.1.2.1, (r3.2.1.2.2.1, r2.1.1.2.2.2))))).bind fun y7 =>
   ((f38x1 y7 r1.1.1).bind fun r8 =>
   (whenS (rowsOf (Qt2) (Qt3) y7 = r8.2.1) (if (Int.toNat r8.1.1) < List.length r8.2.1.2.2.1 then (if 0 < (List.length (List.replicate (Int.toNat r8.1.2.2.1) (0 : Int))) ∧ (List.length (List.replicate (Int.toNat r8.1.2.2.1) (0 : Int))) ≤ (Int.toNat r8.1.2.2.1) then (let r9 : List Int := (spl (List.getD r8.2.1.2.2.1 (Int.toNat r8.1.1) ([] : List Int)) (Int.toNat r8.1.2.1) (List.length (List.replicate (Int.toNat r8.1.2.2.1) (0 : Int))) (List.replicate (Int.toNat r8.1.2.2.1) (0 : Int)))
   (k (((y7.1, (y7.2.1, ((List.set r8.2.1.2.2.1 (Int.toNat r8.1.1) r9), y7.2.2.2))), ((0 : Int), ())), ()))) else none) else none))))) else none) else none))))))))
noncomputable def f14 (a0 : Qv0) (a1 : ByteArray) : Option ((Qv0 × Int × Unit) × (Unit)) := f14_k a0 a1 some
noncomputable def f14_sm : Sm := { ps := [.ro Qt2, .ro .str], rs := [(Qt2, Qt3), ((.int .i64), .ro)], F := fun x => f14 x.1 x.2.1 }
theorem f14_m (x : ArgT [.ro Qt2, .ro .str]) : codeS f14_fx f14_code (start [.ro Qt2, .ro .str] [] x 52) (finK env [.cell 4 24, .tmp 5] [.ro Qt2, .ro .str] [(Qt2, Qt3), ((.int .i64), .ro)]) = f14_k x.1 x.2.1 (fun r => some (r, [])) := by kernel_rfl
theorem f14_n {R : Type} (a0 : Qv0) (a1 : ByteArray) (k : (Qv0 × Int × Unit) × (Unit) → Option R) : f14_k a0 a1 k = (f14 a0 a1).bind k := by
  simp only [f14, f14_k, cond_bind, ite_bind, bind_bind, some_bind, none_bind, elim_bind, whenS_bind]
theorem f14_ok : SmOk Try.prog 14 f14_sm :=
  sum_of (c := f14_fx) (fn := Try.f14) (code := f14_code) (sm := f14_sm) mixed (env_ok env_envB) (TabsOk.all ⟨f34_c, f35_c, f36_c, f38x1_c, f37_c, f39_c, trivial⟩) Try.func14 (by kernel_rfl)
   ((LoopsOk.of (l := [f14_l10_b]) (by kernel_rfl) ⟨node_is (by kernel_rfl) f14_l10_ok, trivial⟩))
   (no_tails (by kernel_rfl)) rfl
   (fun ks x hl => by
    have hk : ks = [] := List.length_eq_zero_iff.1 hl
    subst hk
    exact (f14_m x).trans (f14_n _ _ _))
theorem f14_c : CalOk Try.prog 14 f14_sm := .inl ⟨f14_ok, ⟨Try.f14, Try.func14, by kernel_rfl, by kernel_rfl⟩⟩
noncomputable def f100_code : Code := (Try.f100.body).getD .skip
noncomputable def f100_fx : Fx := { E := env, T := [], H := [], O := [], nodes := [] }
noncomputable def f100_k {R : Type} (a0 : List Int) (k : (Bool × Unit) × (Unit) → Option R) : Option R :=
 (k (((((List.length a0 : Nat) : Int) != (128 : Int)), ()), ()))
noncomputable def f100 (a0 : List Int) : Option ((Bool × Unit) × (Unit)) := f100_k a0 some
noncomputable def f100_sm : Sm := { ps := [.ro (.slc (.int .u8))], rs := [(.bool, .ro)], F := fun x => f100 x.1 }
theorem f100_m (x : ArgT [.ro (.slc (.int .u8))]) : codeS f100_fx f100_code (start [.ro (.slc (.int .u8))] [] x 6) (finK env [.tmp 2] [.ro (.slc (.int .u8))] [(.bool, .ro)]) = f100_k x.1 (fun r => some (r, [])) := by kernel_rfl
theorem f100_n {R : Type} (a0 : List Int) (k : (Bool × Unit) × (Unit) → Option R) : f100_k a0 k = (f100 a0).bind k := by
  simp only [f100, f100_k, cond_bind, ite_bind, bind_bind, some_bind, none_bind, elim_bind, whenS_bind]
theorem f100_ok : SmOk Try.prog 100 f100_sm :=
  sum_of (c := f100_fx) (fn := Try.f100) (code := f100_code) (sm := f100_sm) mixed (env_ok env_envB) (TabsOk.all trivial) Try.func100 (by kernel_rfl)
   ((LoopsOk.of (l := []) (by kernel_rfl) trivial))
   (no_tails (by kernel_rfl)) rfl
   (fun ks x hl => by
    have hk : ks = [] := List.length_eq_zero_iff.1 hl
    subst hk
    exact (f100_m x).trans (f100_n _ _))
theorem f100_c : CalOk Try.prog 100 f100_sm := .inl ⟨f100_ok, ⟨Try.f100, Try.func100, by kernel_rfl, by kernel_rfl⟩⟩
noncomputable def f132_code : Code := (Try.f132.body).getD .skip
noncomputable def f132_l2_sk : SkS := ⟨10, [(0, .con (.slc (.slc (.int .u8)))), (0, .fn 100 (.tnil)), (5, .con (.int .i64)), (0, .con (.int .i64))], []⟩
noncomputable def f132_l2_o0 : SkS := ⟨14, [(4, .con (.int .i64))], []⟩
noncomputable def f132_l2_o1 : SkS := ⟨19, [], []⟩
noncomputable def f132_l2_outs : List Way := [⟨.ret, [], f132_l2_o0⟩, ⟨(.exit 0), [], f132_l2_o1⟩]
abbrev f132_l2_C := (List (List Int) × Int)
abbrev f132_l2_X := Int
abbrev f132_l2_Y := (Int) ⊕ (Unit)
noncomputable def f132_l2_con (t : f132_l2_sk.T) : f132_l2_C := (t.1.1, t.1.2.2.1)
noncomputable def f132_l2_get (t : f132_l2_sk.T) : f132_l2_X := t.1.2.2.2.1
noncomputable def f132_l2_put (c : f132_l2_C) (x : f132_l2_X) : f132_l2_sk.T := ((c.1, ((), (c.2, (x, ())))), ())
theorem f132_l2_pg (t : f132_l2_sk.T) : f132_l2_put (f132_l2_con t) (f132_l2_get t) = t := by kernel_rfl
noncomputable def f132_l2_w0 (c : f132_l2_C) (y : Int) : f132_l2_o0.T := ((y, ()), ())
noncomputable def f132_l2_w1 (c : f132_l2_C) (y : Unit) : f132_l2_o1.T := ((), ())
noncomputable def f132_l2_out (c : f132_l2_C) (y : f132_l2_Y) : OutV f132_l2_outs := (Sum.elim (fun y => (.inl (f132_l2_w0 c y))) (fun y => (.inr (.inl (f132_l2_w1 c y))))) y
noncomputable def f132_l2_k {R : Type} (a0 : List (List Int)) (a1 : Int) (a2 : Int) (kin : f132_l2_X → Option R) (k0 : Int → Option R) (k1 : Unit → Option R) : Option R :=
 (cond (decide (a2 < a1))
 (if (0 : Int) ≤ a2 ∧ a2 < ((List.length a0 : Nat) : Int) then ((f100 (List.getD a0 (Int.toNat a2) ([] : List Int))).bind fun r0 =>
  (cond r0.1.1
  (k0 a2)
  (let v1 : Int := (IntKind.i64.wrap (a2 + (1 : Int)))
   (kin v1)))) else none)
 (k1 ()))
noncomputable def f132_l2_g (a0 : List (List Int)) (a1 : Int) (x : f132_l2_X) : Option (f132_l2_X ⊕ f132_l2_Y) := f132_l2_k a0 a1 x (fun x => some (.inl x)) (fun y => some (.inr (.inl y))) (fun y => some (.inr (.inr y)))
noncomputable def f132_l2 (a0 : List (List Int)) (a1 : Int) (x : f132_l2_X) : Option f132_l2_Y := loopO (f132_l2_g a0 a1) x
noncomputable def f132_l2_nd : Node := { nils := [], sk := f132_l2_sk, outs := f132_l2_outs, Y := f132_l2_Y, L := fun t => f132_l2 ((f132_l2_con t).1) ((f132_l2_con t).2) (f132_l2_get t), out := fun t y => f132_l2_out (f132_l2_con t) y, disp := fun t y K => (Sum.elim (fun y => K .ret (f132_l2_o0.fill (f132_l2_w0 (f132_l2_con t) y))) (fun y => K (.exit 0) (f132_l2_o1.fill (f132_l2_w1 (f132_l2_con t) y)))) y }
noncomputable def f132_fx : Fx := { E := env, T := [(100, f100_sm)], H := [], O := [], nodes := [((true, 2), f132_l2_nd)] }
noncomputable def f132_l2_b : Code := (loops f132_code).getD 0 .skip
theorem f132_l2_r (c : f132_l2_C) (x : f132_l2_X) : roundS f132_fx f132_l2_b f132_l2_nd (f132_l2_put c x) = f132_l2_k c.1 c.2 x (fun x => some (.inl (f132_l2_put c x))) (fun y => some (.inr (.inl (f132_l2_w0 c y)))) (fun y => some (.inr (.inr (.inl (f132_l2_w1 c y))))) := by kernel_rfl
theorem f132_l2_n {R : Type} (a0 : List (List Int)) (a1 : Int) (a2 : Int) (kin : f132_l2_X → Option R) (k0 : Int → Option R) (k1 : Unit → Option R) : f132_l2_k a0 a1 a2 kin k0 k1 = (f132_l2_g a0 a1 a2).bind (Sum.elim kin (Sum.elim k0 k1)) := by
  simp only [f132_l2_g, f132_l2_k, cond_bind, ite_bind, bind_bind, some_bind, none_bind, elim_bind, whenS_bind, Sum.elim_inl, Sum.elim_inr]
theorem f132_l2_ok : LoopOk f132_fx f132_l2_b f132_l2_nd := loop_ok f132_l2_con f132_l2_get f132_l2_put f132_l2_pg (fun c => f132_l2_g c.1 c.2) f132_l2_out (fun t y => rfl) (by intro R t y K; rcases y with y | y <;> rfl) (fun c x => by
  refine (f132_l2_r c x).trans ((f132_l2_n _ _ _ _ _ _).trans ?_)
  first
  | rfl
  | congr 1
    funext s
    rcases s with s | s | s <;> rfl) (fun t => rfl)
noncomputable def f132_k {R : Type} (a0 : List (List Int)) (a1 : (Unit)) (k : (Int × Unit) × (Unit) → Option R) : Option R :=
 ((f132_l2 a0 ((List.length a0 : Nat) : Int) (0 : Int)).bind fun y2 =>
 ((Sum.elim (fun z3 =>
 (k ((z3, ()), ())))
 (fun z4 =>
 (k (((-1 : Int), ()), ())))) y2))
noncomputable def f132 (a0 : List (List Int)) (a1 : (Unit)) : Option ((Int × Unit) × (Unit)) := f132_k a0 a1 some
noncomputable def f132_sm : Sm := { ps := [.ro (.slc (.slc (.int .u8))), .fn 100 []], rs := [((.int .i64), .ro)], F := fun x => f132 x.1 x.2.1 }
theorem f132_m (x : ArgT [.ro (.slc (.slc (.int .u8))), .fn 100 []]) : codeS f132_fx f132_code (start [.ro (.slc (.slc (.int .u8))), .fn 100 []] [] x 19) (finK env [.tmp 4] [.ro (.slc (.slc (.int .u8))), .fn 100 []] [((.int .i64), .ro)]) = f132_k x.1 x.2.1 (fun r => some (r, [])) := by kernel_rfl
theorem f132_n {R : Type} (a0 : List (List Int)) (a1 : (Unit)) (k : (Int × Unit) × (Unit) → Option R) : f132_k a0 a1 k = (f132 a0 a1).bind k := by
  simp only [f132, f132_k, cond_bind, ite_bind, bind_bind, some_bind, none_bind, elim_bind, whenS_bind]
theorem f132_ok : SmOk Try.prog 132 f132_sm :=
  sum_of (c := f132_fx) (fn := Try.f132) (code := f132_code) (sm := f132_sm) mixed (env_ok env_envB) (TabsOk.all ⟨f100_c, trivial⟩) Try.func132 (by kernel_rfl)
   ((LoopsOk.of (l := [f132_l2_b]) (by kernel_rfl) ⟨node_is (by kernel_rfl) f132_l2_ok, trivial⟩))
   (no_tails (by kernel_rfl)) rfl
   (fun ks x hl => by
    have hk : ks = [] := List.length_eq_zero_iff.1 hl
    subst hk
    exact (f132_m x).trans (f132_n _ _ _))
theorem f132_c : CalOk Try.prog 132 f132_sm := .inl ⟨f132_ok, ⟨Try.f132, Try.func132, by kernel_rfl, by kernel_rfl⟩⟩
noncomputable def f99_code : Code := (Try.f99.body).getD .skip
noncomputable def f99_fx : Fx := { E := env, T := [(132, f132_sm)], H := [], O := [], nodes := [] }
noncomputable def f99_k {R : Type} (a0 : List (List Int)) (a1 : (Unit)) (k : (Bool × Unit) × (Unit) → Option R) : Option R :=
 ((f132 a0 ()).bind fun r0 =>
 (k (((decide (r0.1.1 ≥ (0 : Int))), ()), ())))
noncomputable def f99 (a0 : List (List Int)) (a1 : (Unit)) : Option ((Bool × Unit) × (Unit)) := f99_k a0 a1 some
noncomputable def f99_sm : Sm := { ps := [.ro (.slc (.slc (.int .u8))), .fn 100 []], rs := [(.bool, .ro)], F := fun x => f99 x.1 x.2.1 }
theorem f99_m (x : ArgT [.ro (.slc (.slc (.int .u8))), .fn 100 []]) : codeS f99_fx f99_code (start [.ro (.slc (.slc (.int .u8))), .fn 100 []] [] x 9) (finK env [.tmp 4] [.ro (.slc (.slc (.int .u8))), .fn 100 []] [(.bool, .ro)]) = f99_k x.1 x.2.1 (fun r => some (r, [])) := by kernel_rfl
theorem f99_n {R : Type} (a0 : List (List Int)) (a1 : (Unit)) (k : (Bool × Unit) × (Unit) → Option R) : f99_k a0 a1 k = (f99 a0 a1).bind k := by
  simp only [f99, f99_k, cond_bind, ite_bind, bind_bind, some_bind, none_bind, elim_bind, whenS_bind]
theorem f99_ok : SmOk Try.prog 99 f99_sm :=
  sum_of (c := f99_fx) (fn := Try.f99) (code := f99_code) (sm := f99_sm) mixed (env_ok env_envB) (TabsOk.all ⟨f132_c, trivial⟩) Try.func99 (by kernel_rfl)
   ((LoopsOk.of (l := []) (by kernel_rfl) trivial))
   (no_tails (by kernel_rfl)) rfl
   (fun ks x hl => by
    have hk : ks = [] := List.length_eq_zero_iff.1 hl
    subst hk
    exact (f99_m x).trans (f99_n _ _ _))
theorem f99_c : CalOk Try.prog 99 f99_sm := .inl ⟨f99_ok, ⟨Try.f99, Try.func99, by kernel_rfl, by kernel_rfl⟩⟩
noncomputable def f72_code : Code := (Try.f72.body).getD .skip
noncomputable def f72_fx : Fx := { E := env, T := [(99, f99_sm)], H := [], O := [], nodes := [] }
noncomputable def f72_k {R : Type} (a0 : Qv0) (k : (Int × Unit) × (Unit) → Option R) : Option R :=
 (let v0 : Int := (if a0.2.1 < a0.1 then a0.2.1 else a0.1)
 (cond (decide (v0 < (1 : Int)))
 (k (((1 : Int), ()), ()))
 (cond (decide (a0.1 > (20 : Int)))
  (k (((1 : Int), ()), ()))
  (cond (decide (a0.2.1 > (12 : Int)))
   (k (((1 : Int), ()), ()))
   (let v1 : Int := (IntKind.i64.wrap (a0.2.1 * a0.1))
    (cond (((List.length a0.2.2.1 : Nat) : Int) != v1)
    (k (((3 : Int), ()), ()))
    ((f99 a0.2.2.1 ()).bind fun r2 =>
     (cond r2.1.1
     (k (((3 : Int), ()), ()))
     (k (((0 : Int), ()), ()))))))))))
noncomputable def f72 (a0 : Qv0) : Option ((Int × Unit) × (Unit)) := f72_k a0 some
noncomputable def f72_sm : Sm := { ps := [.ro Qt2], rs := [((.int .i64), .ro)], F := fun x => f72 x.1 }
theorem f72_m (x : ArgT [.ro Qt2]) : codeS f72_fx f72_code (start [.ro Qt2] [] x 33) (finK env [.tmp 2] [.ro Qt2] [((.int .i64), .ro)]) = f72_k x.1 (fun r => some (r, [])) := by kernel_rfl
theorem f72_n {R : Type} (a0 : Qv0) (k : (Int × Unit) × (Unit) → Option R) : f72_k a0 k = (f72 a0).bind k := by
  simp only [f72, f72_k, cond_bind, ite_bind, bind_bind, some_bind, none_bind, elim_bind, whenS_bind]
theorem f72_ok : SmOk Try.prog 72 f72_sm :=
  sum_of (c := f72_fx) (fn := Try.f72) (code := f72_code) (sm := f72_sm) mixed (env_ok env_envB) (TabsOk.all ⟨f99_c, trivial⟩) Try.func72 (by kernel_rfl)
   ((LoopsOk.of (l := []) (by kernel_rfl) trivial))
   (no_tails (by kernel_rfl)) rfl
   (fun ks x hl => by
    have hk : ks = [] := List.length_eq_zero_iff.1 hl
    subst hk
    exact (f72_m x).trans (f72_n _ _))
theorem f72_c : CalOk Try.prog 72 f72_sm := .inl ⟨f72_ok, ⟨Try.f72, Try.func72, by kernel_rfl, by kernel_rfl⟩⟩
noncomputable def f101_code : Code := (Try.f101.body).getD .skip
noncomputable def f101_fx : Fx := { E := env, T := [], H := [], O := [], nodes := [] }
noncomputable def f101_k {R : Type} (a0 : Unit) (a1 : Int) (k : (List Int × Unit) × (Unit) → Option R) : Option R :=
 (cond (decide (a1 < (0 : Int)))
 none
 (let v0 : Int := (IntKind.i64.wrap (a1 - (0 : Int)))
  (cond (decide (v0 > (0 : Int)))
  (if (0 : Int) < v0 ∧ v0 * 1 ≤ (most : Int) ∧ 0 < 1 ∧ 0 < 1 then (if (0 : Int) ≤ (0 : Int) ∧ (0 : Int) ≤ (0 : Int) ∧ (0 : Int) ≤ ((List.length (List.replicate (Int.toNat v0) (0 : Int)) : Nat) : Int) then (k (((List.take 0 (List.drop 0 (List.replicate (Int.toNat v0) (0 : Int)))), ()), ())) else none) else none)
  (k (([], ()), ())))))
noncomputable def f101 (a0 : Unit) (a1 : Int) : Option ((List Int × Unit) × (Unit)) := f101_k a0 a1 some
noncomputable def f101_sm : Sm := { ps := [.nil, .ro (.int .i64)], rs := [((.slc (.int .u8)), (.own .ro))], F := fun x => f101 x.1 x.2.1 }
theorem f101_m (x : ArgT [.nil, .ro (.int .i64)]) : codeS f101_fx f101_code (start [.nil, .ro (.int .i64)] [] x 27) (finK env [.tmp 4] [.nil, .ro (.int .i64)] [((.slc (.int .u8)), (.own .ro))]) = f101_k x.1 x.2.1 (fun r => some (r, [])) := by kernel_rfl
theorem f101_n {R : Type} (a0 : Unit) (a1 : Int) (k : (List Int × Unit) × (Unit) → Option R) : f101_k a0 a1 k = (f101 a0 a1).bind k := by
  simp only [f101, f101_k, cond_bind, ite_bind, bind_bind, some_bind, none_bind, elim_bind, whenS_bind]
theorem f101_ok : SmOk Try.prog 101 f101_sm :=
  sum_of (c := f101_fx) (fn := Try.f101) (code := f101_code) (sm := f101_sm) mixed (env_ok env_envB) (TabsOk.all trivial) Try.func101 (by kernel_rfl)
   ((LoopsOk.of (l := []) (by kernel_rfl) trivial))
   (no_tails (by kernel_rfl)) rfl
   (fun ks x hl => by
    have hk : ks = [] := List.length_eq_zero_iff.1 hl
    subst hk
    exact (f101_m x).trans (f101_n _ _ _))
theorem f101_c : CalOk Try.prog 101 f101_sm := .inl ⟨f101_ok, ⟨Try.f101, Try.func101, by kernel_rfl, by kernel_rfl⟩⟩
noncomputable def f73_code : Code := (Try.f73.body).getD .skip
noncomputable def f73_l3_sk : SkS := ⟨24, [(0, .con (.slc (.slc (.int .u8)))), (2, .con (.int .i64)), (5, .con (.slc (.slc (.int .u8)))), (0, .con (.int .i64)), (0, .con (.int .i64))], []⟩
noncomputable def f73_l3_o0 : SkS := ⟨32, [(0, .con (.slc (.slc (.int .u8)))), (2, .con (.int .i64))], []⟩
noncomputable def f73_l3_outs : List Way := [⟨(.exit 0), [], f73_l3_o0⟩]
abbrev f73_l3_C := (List (List Int) × List (List Int) × Int)
abbrev f73_l3_X := (Int × Int)
abbrev f73_l3_Y := (Int)
noncomputable def f73_l3_con (t : f73_l3_sk.T) : f73_l3_C := (t.1.1, t.1.2.2.1, t.1.2.2.2.1)
noncomputable def f73_l3_get (t : f73_l3_sk.T) : f73_l3_X := (t.1.2.1, t.1.2.2.2.2.1)
noncomputable def f73_l3_put (c : f73_l3_C) (x : f73_l3_X) : f73_l3_sk.T := ((c.1, (x.1, (c.2.1, (c.2.2, (x.2, ()))))), ())
theorem f73_l3_pg (t : f73_l3_sk.T) : f73_l3_put (f73_l3_con t) (f73_l3_get t) = t := by kernel_rfl
noncomputable def f73_l3_w0 (c : f73_l3_C) (y : Int) : f73_l3_o0.T := ((c.1, (y, ())), ())
noncomputable def f73_l3_out (c : f73_l3_C) (y : f73_l3_Y) : OutV f73_l3_outs := (fun y => (.inl (f73_l3_w0 c y))) y
noncomputable def f73_l3_k {R : Type} (a0 : List (List Int)) (a1 : Int) (a2 : List (List Int)) (a3 : Int) (a4 : Int) (kin : f73_l3_X → Option R) (k0 : Int → Option R) : Option R :=
 (cond (decide (a4 < a3))
 (if (0 : Int) ≤ a4 ∧ a4 < ((List.length a2 : Nat) : Int) then (let v0 : Int := (IntKind.i64.wrap (a1 + ((List.length (List.getD a2 (Int.toNat a4) ([] : List Int)) : Nat) : Int)))
  (cond (decide (v0 < (0 : Int)))
  none
  (let v1 : Int := (IntKind.i64.wrap (a4 + (1 : Int)))
   (kin (v0, v1))))) else none)
 (k0 a1))
noncomputable def f73_l3_g (a0 : List (List Int)) (a2 : List (List Int)) (a3 : Int) (x : f73_l3_X) : Option (f73_l3_X ⊕ f73_l3_Y) := f73_l3_k a0 x.1 a2 a3 x.2 (fun x => some (.inl x)) (fun y => some (.inr y))
noncomputable def f73_l3 (a0 : List (List Int)) (a2 : List (List Int)) (a3 : Int) (x : f73_l3_X) : Option f73_l3_Y := loopO (f73_l3_g a0 a2 a3) x
noncomputable def f73_l3_nd : Node := { nils := [], sk := f73_l3_sk, outs := f73_l3_outs, Y := f73_l3_Y, L := fun t => f73_l3 ((f73_l3_con t).1) ((f73_l3_con t).2.1) ((f73_l3_con t).2.2) (f73_l3_get t), out := fun t y => f73_l3_out (f73_l3_con t) y, disp := fun t y K => (fun y => K (.exit 0) (f73_l3_o0.fill (f73_l3_w0 (f73_l3_con t) y))) y }
noncomputable def f73_l11_sk : SkS := ⟨8, [(6, .ref 111 []), (18, .con (.slc (.slc (.int .u8)))), (0, .con (.int .i64)), (0, .con (.int .i64))], [(111, ⟨none, (.slc (.int .u8)), (.own .ro), none⟩)]⟩
noncomputable def f73_l11_o0 : SkS := ⟨29, [(6, .ref 111 [])], [(111, ⟨none, (.slc (.int .u8)), (.own .ro), none⟩)]⟩
noncomputable def f73_l11_outs : List Way := [⟨(.exit 2), [], f73_l11_o0⟩]
abbrev f73_l11_C := (List (List Int) × Int)
abbrev f73_l11_X := (Int × List Int)
abbrev f73_l11_Y := (List Int)
noncomputable def f73_l11_con (t : f73_l11_sk.T) : f73_l11_C := (t.1.1, t.1.2.1)
noncomputable def f73_l11_get (t : f73_l11_sk.T) : f73_l11_X := (t.1.2.2.1, t.2.1.1)
noncomputable def f73_l11_put (c : f73_l11_C) (x : f73_l11_X) : f73_l11_sk.T := ((c.1, (c.2, (x.1, ()))), ((x.2, ()), ()))
theorem f73_l11_pg (t : f73_l11_sk.T) : f73_l11_put (f73_l11_con t) (f73_l11_get t) = t := by kernel_rfl
noncomputable def f73_l11_w0 (c : f73_l11_C) (y : List Int) : f73_l11_o0.T := ((), ((y, ()), ()))
noncomputable def f73_l11_out (c : f73_l11_C) (y : f73_l11_Y) : OutV f73_l11_outs := (fun y => (.inl (f73_l11_w0 c y))) y
noncomputable def f73_l11_k {R : Type} (a0 : List (List Int)) (a1 : Int) (a2 : Int) (a3 : List Int) (kin : f73_l11_X → Option R) (k0 : List Int → Option R) : Option R :=
 (cond (decide (a2 < a1))
 (if (0 : Int) ≤ a2 ∧ a2 < ((List.length a0 : Nat) : Int) then (if (List.length a3 + List.length (List.getD a0 (Int.toNat a2) ([] : List Int))) * 1 ≤ most ∧ 0 < 1 ∧ 0 < 1 then (let r4 : List Int := (a3 ++ (List.getD a0 (Int.toNat a2) ([] : List Int)))
  (let v5 : Int := (IntKind.i64.wrap (a2 + (1 : Int)))
  (kin (v5, r4)))) else none) else none)
 (k0 a3))
noncomputable def f73_l11_g (a0 : List (List Int)) (a1 : Int) (x : f73_l11_X) : Option (f73_l11_X ⊕ f73_l11_Y) := f73_l11_k a0 a1 x.1 x.2 (fun x => some (.inl x)) (fun y => some (.inr y))
noncomputable def f73_l11 (a0 : List (List Int)) (a1 : Int) (x : f73_l11_X) : Option f73_l11_Y := loopO (f73_l11_g a0 a1) x
noncomputable def f73_l11_nd : Node := { nils := [(6, 111, (.int .u8), .ro)], sk := f73_l11_sk, outs := f73_l11_outs, Y := f73_l11_Y, L := fun t => f73_l11 ((f73_l11_con t).1) ((f73_l11_con t).2) (f73_l11_get t), out := fun t y => f73_l11_out (f73_l11_con t) y, disp := fun t y K => (fun y => K (.exit 2) (f73_l11_o0.fill (f73_l11_w0 (f73_l11_con t) y))) y }
noncomputable def f73_fx : Fx := { E := env, T := [(101, f101_sm)], H := [], O := [], nodes := [((true, 3), f73_l3_nd), ((true, 11), f73_l11_nd)] }
noncomputable def f73_l3_b : Code := (loops f73_code).getD 0 .skip
theorem f73_l3_r (c : f73_l3_C) (x : f73_l3_X) : roundS f73_fx f73_l3_b f73_l3_nd (f73_l3_put c x) = f73_l3_k c.1 x.1 c.2.1 c.2.2 x.2 (fun x => some (.inl (f73_l3_put c x))) (fun y => some (.inr (.inl (f73_l3_w0 c y)))) := by kernel_rfl
theorem f73_l3_n {R : Type} (a0 : List (List Int)) (a1 : Int) (a2 : List (List Int)) (a3 : Int) (a4 : Int) (kin : f73_l3_X → Option R) (k0 : Int → Option R) : f73_l3_k a0 a1 a2 a3 a4 kin k0 = (f73_l3_g a0 a2 a3 (a1, a4)).bind (Sum.elim kin k0) := by
  simp only [f73_l3_g, f73_l3_k, cond_bind, ite_bind, bind_bind, some_bind, none_bind, elim_bind, whenS_bind, Sum.elim_inl, Sum.elim_inr]
theorem f73_l3_ok : LoopOk f73_fx f73_l3_b f73_l3_nd := loop_ok f73_l3_con f73_l3_get f73_l3_put f73_l3_pg (fun c => f73_l3_g c.1 c.2.1 c.2.2) f73_l3_out (fun t y => rfl) (fun t y K => rfl) (fun c x => by
  refine (f73_l3_r c x).trans ((f73_l3_n _ _ _ _ _ _ _).trans ?_)
  first
  | rfl
  | congr 1
    funext s
    rcases s with s | s <;> rfl) (fun t => rfl)
noncomputable def f73_l11_b : Code := (loops f73_code).getD 1 .skip
theorem f73_l11_r (c : f73_l11_C) (x : f73_l11_X) : roundS f73_fx f73_l11_b f73_l11_nd (f73_l11_put c x) = f73_l11_k c.1 c.2 x.1 x.2 (fun x => some (.inl (f73_l11_put c x))) (fun y => some (.inr (.inl (f73_l11_w0 c y)))) := by kernel_rfl
theorem f73_l11_n {R : Type} (a0 : List (List Int)) (a1 : Int) (a2 : Int) (a3 : List Int) (kin : f73_l11_X → Option R) (k0 : List Int → Option R) : f73_l11_k a0 a1 a2 a3 kin k0 = (f73_l11_g a0 a1 (a2, a3)).bind (Sum.elim kin k0) := by
  simp only [f73_l11_g, f73_l11_k, cond_bind, ite_bind, bind_bind, some_bind, none_bind, elim_bind, whenS_bind, Sum.elim_inl, Sum.elim_inr]
theorem f73_l11_ok : LoopOk f73_fx f73_l11_b f73_l11_nd := loop_ok f73_l11_con f73_l11_get f73_l11_put f73_l11_pg (fun c => f73_l11_g c.1 c.2) f73_l11_out (fun t y => rfl) (fun t y K => rfl) (fun c x => by
  refine (f73_l11_r c x).trans ((f73_l11_n _ _ _ _ _ _).trans ?_)
  first
  | rfl
  | congr 1
    funext s
    rcases s with s | s <;> rfl) (fun t => rfl)
noncomputable def f73_k {R : Type} (a0 : List (List Int)) (k : (List Int × Unit) × (Unit) → Option R) : Option R :=
 ((f73_l3 a0 a0 ((List.length a0 : Nat) : Int) ((0 : Int), (0 : Int))).bind fun y2 =>
 ((f101 () y2).bind fun r3 =>
 ((f73_l11 a0 ((List.length a0 : Nat) : Int) ((0 : Int), r3.1.1)).bind fun y6 =>
 (k ((y6, ()), ())))))
noncomputable def f73 (a0 : List (List Int)) : Option ((List Int × Unit) × (Unit)) := f73_k a0 some
noncomputable def f73_sm : Sm := { ps := [.ro (.slc (.slc (.int .u8)))], rs := [((.slc (.int .u8)), (.own .ro))], F := fun x => f73 x.1 }
theorem f73_m (x : ArgT [.ro (.slc (.slc (.int .u8)))]) : codeS f73_fx f73_code (start [.ro (.slc (.slc (.int .u8)))] [] x 36) (finK env [.tmp 2] [.ro (.slc (.slc (.int .u8)))] [((.slc (.int .u8)), (.own .ro))]) = f73_k x.1 (fun r => some (r, [])) := by kernel_rfl
theorem f73_n {R : Type} (a0 : List (List Int)) (k : (List Int × Unit) × (Unit) → Option R) : f73_k a0 k = (f73 a0).bind k := by
  simp only [f73, f73_k, cond_bind, ite_bind, bind_bind, some_bind, none_bind, elim_bind, whenS_bind]
theorem f73_ok : SmOk Try.prog 73 f73_sm :=
  sum_of (c := f73_fx) (fn := Try.f73) (code := f73_code) (sm := f73_sm) mixed (env_ok env_envB) (TabsOk.all ⟨f101_c, trivial⟩) Try.func73 (by kernel_rfl)
   ((LoopsOk.of (l := [f73_l3_b, f73_l11_b]) (by kernel_rfl) ⟨node_is (by kernel_rfl) f73_l3_ok, node_is (by kernel_rfl) f73_l11_ok, trivial⟩))
   (no_tails (by kernel_rfl)) rfl
   (fun ks x hl => by
    have hk : ks = [] := List.length_eq_zero_iff.1 hl
    subst hk
    exact (f73_m x).trans (f73_n _ _))
theorem f73_c : CalOk Try.prog 73 f73_sm := .inl ⟨f73_ok, ⟨Try.f73, Try.func73, by kernel_rfl, by kernel_rfl⟩⟩
noncomputable def f134_code : Code := (Try.f134.body).getD .skip
noncomputable def f134_fx : Fx := { E := env, T := [(159, eByte_sm)], H := [], O := [], nodes := [] }
noncomputable def f134_k {R : Type} (a0 : List Int) (a1 : Int) (k : (Int × Unit) × (Unit) → Option R) : Option R :=
 ((eByte a0 a1).bind fun r0 =>
 (k ((r0.1.1, ()), ())))
noncomputable def f134 (a0 : List Int) (a1 : Int) : Option ((Int × Unit) × (Unit)) := f134_k a0 a1 some
noncomputable def f134_sm : Sm := { ps := [.ro (.slc (.int .u8)), .ro (.int .u8)], rs := [((.int .i64), .ro)], F := fun x => f134 x.1 x.2.1 }
theorem f134_m (x : ArgT [.ro (.slc (.int .u8)), .ro (.int .u8)]) : codeS f134_fx f134_code (start [.ro (.slc (.int .u8)), .ro (.int .u8)] [] x 8) (finK env [.tmp 4] [.ro (.slc (.int .u8)), .ro (.int .u8)] [((.int .i64), .ro)]) = f134_k x.1 x.2.1 (fun r => some (r, [])) := by kernel_rfl
theorem f134_n {R : Type} (a0 : List Int) (a1 : Int) (k : (Int × Unit) × (Unit) → Option R) : f134_k a0 a1 k = (f134 a0 a1).bind k := by
  simp only [f134, f134_k, cond_bind, ite_bind, bind_bind, some_bind, none_bind, elim_bind, whenS_bind]
theorem f134_ok : SmOk Try.prog 134 f134_sm :=
  sum_of (c := f134_fx) (fn := Try.f134) (code := f134_code) (sm := f134_sm) mixed (env_ok env_envB) (TabsOk.all ⟨eByte_c, trivial⟩) Try.func134 (by kernel_rfl)
   ((LoopsOk.of (l := []) (by kernel_rfl) trivial))
   (no_tails (by kernel_rfl)) rfl
   (fun ks x hl => by
    have hk : ks = [] := List.length_eq_zero_iff.1 hl
    subst hk
    exact (f134_m x).trans (f134_n _ _ _))
theorem f134_c : CalOk Try.prog 134 f134_sm := .inl ⟨f134_ok, ⟨Try.f134, Try.func134, by kernel_rfl, by kernel_rfl⟩⟩
noncomputable def f76_code : Code := (Try.f76.body).getD .skip
noncomputable def f76_fx : Fx := { E := env, T := [], H := [], O := [], nodes := [] }
noncomputable def f76_k {R : Type} (a0 : List Int) (a1 : List Int) (k : (Bool × Unit) × (Unit) → Option R) : Option R :=
 (k (((strEq (b2s a0) (b2s a1)), ()), ()))
noncomputable def f76 (a0 : List Int) (a1 : List Int) : Option ((Bool × Unit) × (Unit)) := f76_k a0 a1 some
noncomputable def f76_sm : Sm := { ps := [.ro (.slc (.int .u8)), .ro (.slc (.int .u8))], rs := [(.bool, .ro)], F := fun x => f76 x.1 x.2.1 }
theorem f76_m (x : ArgT [.ro (.slc (.int .u8)), .ro (.slc (.int .u8))]) : codeS f76_fx f76_code (start [.ro (.slc (.int .u8)), .ro (.slc (.int .u8))] [] x 10) (finK env [.tmp 4] [.ro (.slc (.int .u8)), .ro (.slc (.int .u8))] [(.bool, .ro)]) = f76_k x.1 x.2.1 (fun r => some (r, [])) := by kernel_rfl
theorem f76_n {R : Type} (a0 : List Int) (a1 : List Int) (k : (Bool × Unit) × (Unit) → Option R) : f76_k a0 a1 k = (f76 a0 a1).bind k := by
  simp only [f76, f76_k, cond_bind, ite_bind, bind_bind, some_bind, none_bind, elim_bind, whenS_bind]
theorem f76_ok : SmOk Try.prog 76 f76_sm :=
  sum_of (c := f76_fx) (fn := Try.f76) (code := f76_code) (sm := f76_sm) mixed (env_ok env_envB) (TabsOk.all trivial) Try.func76 (by kernel_rfl)
   ((LoopsOk.of (l := []) (by kernel_rfl) trivial))
   (no_tails (by kernel_rfl)) rfl
   (fun ks x hl => by
    have hk : ks = [] := List.length_eq_zero_iff.1 hl
    subst hk
    exact (f76_m x).trans (f76_n _ _ _))
theorem f76_c : CalOk Try.prog 76 f76_sm := .inl ⟨f76_ok, ⟨Try.f76, Try.func76, by kernel_rfl, by kernel_rfl⟩⟩
noncomputable def f104_code : Code := (Try.f104.body).getD .skip
noncomputable def f104_fx : Fx := { E := env, T := [(134, f134_sm), (76, f76_sm)], H := [], O := [], nodes := [] }
noncomputable def f104_k {R : Type} (a0 : List Int) (a1 : List Int) (k : (Int × Unit) × (Unit) → Option R) : Option R :=
 (cond (((List.length a1 : Nat) : Int) == (0 : Int))
 (k (((0 : Int), ()), ()))
 (cond (((List.length a1 : Nat) : Int) == (1 : Int))
  (if (0 : Int) ≤ (0 : Int) ∧ (0 : Int) < ((List.length a1 : Nat) : Int) then ((f134 a0 (List.getD a1 0 (0 : Int))).bind fun r0 =>
   (k ((r0.1.1, ()), ()))) else none)
  (cond (((List.length a1 : Nat) : Int) == ((List.length a0 : Nat) : Int))
   ((f76 a1 a0).bind fun r1 =>
    (cond r1.1.1
    (k (((0 : Int), ()), ()))
    (k (((-1 : Int), ()), ()))))
   (cond (decide (((List.length a1 : Nat) : Int) > ((List.length a0 : Nat) : Int)))
    (k (((-1 : Int), ()), ()))
    none))))
noncomputable def f104 (a0 : List Int) (a1 : List Int) : Option ((Int × Unit) × (Unit)) := f104_k a0 a1 some
noncomputable def f104_sm : Sm := { ps := [.ro (.slc (.int .u8)), .ro (.slc (.int .u8))], rs := [((.int .i64), .ro)], F := fun x => f104 x.1 x.2.1 }
theorem f104_m (x : ArgT [.ro (.slc (.int .u8)), .ro (.slc (.int .u8))]) : codeS f104_fx f104_code (start [.ro (.slc (.int .u8)), .ro (.slc (.int .u8))] [] x 200) (finK env [.tmp 4] [.ro (.slc (.int .u8)), .ro (.slc (.int .u8))] [((.int .i64), .ro)]) = f104_k x.1 x.2.1 (fun r => some (r, [])) := by kernel_rfl
theorem f104_n {R : Type} (a0 : List Int) (a1 : List Int) (k : (Int × Unit) × (Unit) → Option R) : f104_k a0 a1 k = (f104 a0 a1).bind k := by
  simp only [f104, f104_k, cond_bind, ite_bind, bind_bind, some_bind, none_bind, elim_bind, whenS_bind]
theorem f104_ok : SmOk Try.prog 104 f104_sm :=
  sum_of (c := f104_fx) (fn := Try.f104) (code := f104_code) (sm := f104_sm) mixed (env_ok env_envB) (TabsOk.all ⟨f134_c, f76_c, trivial⟩) Try.func104 (by kernel_rfl)
   ((LoopsOk.of (l := [((loops f104_code).getD 0 .skip), ((loops f104_code).getD 1 .skip)]) (by kernel_rfl) ⟨node_no (by kernel_rfl), node_no (by kernel_rfl), trivial⟩))
   (no_tails (by kernel_rfl)) rfl
   (fun ks x hl => by
    have hk : ks = [] := List.length_eq_zero_iff.1 hl
    subst hk
    exact (f104_m x).trans (f104_n _ _ _))
theorem f104_c : CalOk Try.prog 104 f104_sm := .inl ⟨f104_ok, ⟨Try.f104, Try.func104, by kernel_rfl, by kernel_rfl⟩⟩
noncomputable def f74_code : Code := (Try.f74.body).getD .skip
noncomputable def f74_l6_sk : SkS := ⟨29, [(0, .con (.slc (.int .u8))), (0, .con (.slc (.int .u8))), (3, .con (.int .i64))], []⟩
noncomputable def f74_l6_o0 : SkS := ⟨30, [(4, .con (.int .i64))], []⟩
noncomputable def f74_l6_outs : List Way := [⟨.ret, [], f74_l6_o0⟩]
abbrev f74_l6_C := List Int
abbrev f74_l6_X := (List Int × Int)
abbrev f74_l6_Y := (Int)
noncomputable def f74_l6_con (t : f74_l6_sk.T) : f74_l6_C := t.1.2.1
noncomputable def f74_l6_get (t : f74_l6_sk.T) : f74_l6_X := (t.1.1, t.1.2.2.1)
noncomputable def f74_l6_put (c : f74_l6_C) (x : f74_l6_X) : f74_l6_sk.T := ((x.1, (c, (x.2, ()))), ())
theorem f74_l6_pg (t : f74_l6_sk.T) : f74_l6_put (f74_l6_con t) (f74_l6_get t) = t := by kernel_rfl
noncomputable def f74_l6_w0 (c : f74_l6_C) (y : Int) : f74_l6_o0.T := ((y, ()), ())
noncomputable def f74_l6_out (c : f74_l6_C) (y : f74_l6_Y) : OutV f74_l6_outs := (fun y => (.inl (f74_l6_w0 c y))) y
noncomputable def f74_l6_k {R : Type} (a0 : List Int) (a1 : List Int) (a2 : Int) (kin : f74_l6_X → Option R) (k0 : Int → Option R) : Option R :=
 ((f104 a0 a1).bind fun r1 =>
 (cond (r1.1.1 == (-1 : Int))
 (k0 a2)
 (let v2 : Int := (IntKind.i64.wrap (a2 + (1 : Int)))
  (let v3 : Int := (IntKind.i64.wrap (r1.1.1 + ((List.length a1 : Nat) : Int)))
  (if (0 : Int) ≤ v3 ∧ v3 ≤ ((List.length a0 : Nat) : Int) ∧ ((List.length a0 : Nat) : Int) ≤ ((List.length a0 : Nat) : Int) then (kin ((List.take ((Int.toNat ((List.length a0 : Nat) : Int)) - (Int.toNat v3)) (List.drop (Int.toNat v3) a0)), v2)) else none)))))
noncomputable def f74_l6_g (a1 : List Int) (x : f74_l6_X) : Option (f74_l6_X ⊕ f74_l6_Y) := f74_l6_k x.1 a1 x.2 (fun x => some (.inl x)) (fun y => some (.inr y))
noncomputable def f74_l6 (a1 : List Int) (x : f74_l6_X) : Option f74_l6_Y := loopO (f74_l6_g a1) x
noncomputable def f74_l6_nd : Node := { nils := [], sk := f74_l6_sk, outs := f74_l6_outs, Y := f74_l6_Y, L := fun t => f74_l6 ((f74_l6_con t)) (f74_l6_get t), out := fun t y => f74_l6_out (f74_l6_con t) y, disp := fun t y K => (fun y => K .ret (f74_l6_o0.fill (f74_l6_w0 (f74_l6_con t) y))) y }
noncomputable def f74_fx : Fx := { E := env, T := [(103, eCount_sm), (104, f104_sm)], H := [], O := [], nodes := [((true, 6), f74_l6_nd)] }
noncomputable def f74_l6_b : Code := (loops f74_code).getD 0 .skip
theorem f74_l6_r (c : f74_l6_C) (x : f74_l6_X) : roundS f74_fx f74_l6_b f74_l6_nd (f74_l6_put c x) = f74_l6_k x.1 c x.2 (fun x => some (.inl (f74_l6_put c x))) (fun y => some (.inr (.inl (f74_l6_w0 c y)))) := by kernel_rfl
theorem f74_l6_n {R : Type} (a0 : List Int) (a1 : List Int) (a2 : Int) (kin : f74_l6_X → Option R) (k0 : Int → Option R) : f74_l6_k a0 a1 a2 kin k0 = (f74_l6_g a1 (a0, a2)).bind (Sum.elim kin k0) := by
  simp only [f74_l6_g, f74_l6_k, cond_bind, ite_bind, bind_bind, some_bind, none_bind, elim_bind, whenS_bind, Sum.elim_inl, Sum.elim_inr]
theorem f74_l6_ok : LoopOk f74_fx f74_l6_b f74_l6_nd := loop_ok f74_l6_con f74_l6_get f74_l6_put f74_l6_pg (fun c => f74_l6_g c) f74_l6_out (fun t y => rfl) (fun t y K => rfl) (fun c x => by
  refine (f74_l6_r c x).trans ((f74_l6_n _ _ _ _ _).trans ?_)
  first
  | rfl
  | congr 1
    funext s
    rcases s with s | s <;> rfl) (fun t => rfl)
noncomputable def f74_k {R : Type} (a0 : List Int) (a1 : List Int) (k : (Int × Unit) × (Unit) → Option R) : Option R :=
 (cond (((List.length a1 : Nat) : Int) == (0 : Int))
 none
 (cond (((List.length a1 : Nat) : Int) == (1 : Int))
  (if (0 : Int) ≤ (0 : Int) ∧ (0 : Int) < ((List.length a1 : Nat) : Int) then ((eCount a0 (List.getD a1 0 (0 : Int))).bind fun r0 =>
   (k ((r0.1.1, ()), ()))) else none)
  ((f74_l6 a1 (a0, (0 : Int))).bind fun y4 =>
   (k ((y4, ()), ())))))
noncomputable def f74 (a0 : List Int) (a1 : List Int) : Option ((Int × Unit) × (Unit)) := f74_k a0 a1 some
noncomputable def f74_sm : Sm := { ps := [.ro (.slc (.int .u8)), .ro (.slc (.int .u8))], rs := [((.int .i64), .ro)], F := fun x => f74 x.1 x.2.1 }
theorem f74_m (x : ArgT [.ro (.slc (.int .u8)), .ro (.slc (.int .u8))]) : codeS f74_fx f74_code (start [.ro (.slc (.int .u8)), .ro (.slc (.int .u8))] [] x 35) (finK env [.tmp 4] [.ro (.slc (.int .u8)), .ro (.slc (.int .u8))] [((.int .i64), .ro)]) = f74_k x.1 x.2.1 (fun r => some (r, [])) := by kernel_rfl
theorem f74_n {R : Type} (a0 : List Int) (a1 : List Int) (k : (Int × Unit) × (Unit) → Option R) : f74_k a0 a1 k = (f74 a0 a1).bind k := by
  simp only [f74, f74_k, cond_bind, ite_bind, bind_bind, some_bind, none_bind, elim_bind, whenS_bind]
theorem f74_ok : SmOk Try.prog 74 f74_sm :=
  sum_of (c := f74_fx) (fn := Try.f74) (code := f74_code) (sm := f74_sm) mixed (env_ok env_envB) (TabsOk.all ⟨eCount_c, f104_c, trivial⟩) Try.func74 (by kernel_rfl)
   ((LoopsOk.of (l := [f74_l6_b]) (by kernel_rfl) ⟨node_is (by kernel_rfl) f74_l6_ok, trivial⟩))
   (no_tails (by kernel_rfl)) rfl
   (fun ks x hl => by
    have hk : ks = [] := List.length_eq_zero_iff.1 hl
    subst hk
    exact (f74_m x).trans (f74_n _ _ _))
theorem f74_c : CalOk Try.prog 74 f74_sm := .inl ⟨f74_ok, ⟨Try.f74, Try.func74, by kernel_rfl, by kernel_rfl⟩⟩
noncomputable def f75_code : Code := (Try.f75.body).getD .skip
noncomputable def f75_fx : Fx := { E := env, T := [(104, f104_sm)], H := [], O := [], nodes := [] }
noncomputable def f75_k {R : Type} (a0 : List Int) (a1 : List Int) (k : (List Int × List Int × Bool × Unit) × (Unit) → Option R) : Option R :=
 ((f104 a0 a1).bind fun r0 =>
 (cond (decide (r0.1.1 ≥ (0 : Int)))
 (if (0 : Int) ≤ (0 : Int) ∧ (0 : Int) ≤ r0.1.1 ∧ r0.1.1 ≤ ((List.length a0 : Nat) : Int) then (let v1 : Int := (IntKind.i64.wrap (r0.1.1 + ((List.length a1 : Nat) : Int)))
  (if (0 : Int) ≤ v1 ∧ v1 ≤ ((List.length a0 : Nat) : Int) ∧ ((List.length a0 : Nat) : Int) ≤ ((List.length a0 : Nat) : Int) then (k (((List.take ((Int.toNat r0.1.1) - 0) (List.drop 0 a0)), ((List.take ((Int.toNat ((List.length a0 : Nat) : Int)) - (Int.toNat v1)) (List.drop (Int.toNat v1) a0)), (true, ()))), ())) else none)) else none)
 (k ((a0, ([], (false, ()))), ()))))
noncomputable def f75 (a0 : List Int) (a1 : List Int) : Option ((List Int × List Int × Bool × Unit) × (Unit)) := f75_k a0 a1 some
noncomputable def f75_sm : Sm := { ps := [.ro (.slc (.int .u8)), .ro (.slc (.int .u8))], rs := [((.slc (.int .u8)), .ro), ((.slc (.int .u8)), .ro), (.bool, .ro)], F := fun x => f75 x.1 x.2.1 }
theorem f75_m (x : ArgT [.ro (.slc (.int .u8)), .ro (.slc (.int .u8))]) : codeS f75_fx f75_code (start [.ro (.slc (.int .u8)), .ro (.slc (.int .u8))] [] x 23) (finK env [.tmp 4, .tmp 5, .tmp 6] [.ro (.slc (.int .u8)), .ro (.slc (.int .u8))] [((.slc (.int .u8)), .ro), ((.slc (.int .u8)), .ro), (.bool, .ro)]) = f75_k x.1 x.2.1 (fun r => some (r, [])) := by kernel_rfl
theorem f75_n {R : Type} (a0 : List Int) (a1 : List Int) (k : (List Int × List Int × Bool × Unit) × (Unit) → Option R) : f75_k a0 a1 k = (f75 a0 a1).bind k := by
  simp only [f75, f75_k, cond_bind, ite_bind, bind_bind, some_bind, none_bind, elim_bind, whenS_bind]
theorem f75_ok : SmOk Try.prog 75 f75_sm :=
  sum_of (c := f75_fx) (fn := Try.f75) (code := f75_code) (sm := f75_sm) mixed (env_ok env_envB) (TabsOk.all ⟨f104_c, trivial⟩) Try.func75 (by kernel_rfl)
   ((LoopsOk.of (l := []) (by kernel_rfl) trivial))
   (no_tails (by kernel_rfl)) rfl
   (fun ks x hl => by
    have hk : ks = [] := List.length_eq_zero_iff.1 hl
    subst hk
    exact (f75_m x).trans (f75_n _ _ _))
theorem f75_c : CalOk Try.prog 75 f75_sm := .inl ⟨f75_ok, ⟨Try.f75, Try.func75, by kernel_rfl, by kernel_rfl⟩⟩
noncomputable def f67_code : Code := (Try.f67.body).getD .skip
noncomputable def f67_fx : Fx := { E := env, T := [(95, eStr_sm)], H := [], O := [], nodes := [] }
noncomputable def f67_k {R : Type} (a0 : ByteArray) (a1 : Int) (k : (Int × Unit) × (Unit) → Option R) : Option R :=
 ((eStr a0 a1).bind fun r0 =>
 (k ((r0.1.1, ()), ())))
noncomputable def f67 (a0 : ByteArray) (a1 : Int) : Option ((Int × Unit) × (Unit)) := f67_k a0 a1 some
noncomputable def f67_sm : Sm := { ps := [.ro .str, .ro (.int .u8)], rs := [((.int .i64), .ro)], F := fun x => f67 x.1 x.2.1 }
theorem f67_m (x : ArgT [.ro .str, .ro (.int .u8)]) : codeS f67_fx f67_code (start [.ro .str, .ro (.int .u8)] [] x 8) (finK env [.tmp 4] [.ro .str, .ro (.int .u8)] [((.int .i64), .ro)]) = f67_k x.1 x.2.1 (fun r => some (r, [])) := by kernel_rfl
theorem f67_n {R : Type} (a0 : ByteArray) (a1 : Int) (k : (Int × Unit) × (Unit) → Option R) : f67_k a0 a1 k = (f67 a0 a1).bind k := by
  simp only [f67, f67_k, cond_bind, ite_bind, bind_bind, some_bind, none_bind, elim_bind, whenS_bind]
theorem f67_ok : SmOk Try.prog 67 f67_sm :=
  sum_of (c := f67_fx) (fn := Try.f67) (code := f67_code) (sm := f67_sm) mixed (env_ok env_envB) (TabsOk.all ⟨eStr_c, trivial⟩) Try.func67 (by kernel_rfl)
   ((LoopsOk.of (l := []) (by kernel_rfl) trivial))
   (no_tails (by kernel_rfl)) rfl
   (fun ks x hl => by
    have hk : ks = [] := List.length_eq_zero_iff.1 hl
    subst hk
    exact (f67_m x).trans (f67_n _ _ _))
theorem f67_c : CalOk Try.prog 67 f67_sm := .inl ⟨f67_ok, ⟨Try.f67, Try.func67, by kernel_rfl, by kernel_rfl⟩⟩
noncomputable def f33_code : Code := (Try.f33.body).getD .skip
noncomputable def f33_fx : Fx := { E := env, T := [(67, f67_sm)], H := [], O := [], nodes := [] }
noncomputable def f33_k {R : Type} (a0 : ByteArray) (a1 : Int) (k : (Int × Unit) × (Unit) → Option R) : Option R :=
 ((f67 a0 a1).bind fun r0 =>
 (k ((r0.1.1, ()), ())))
noncomputable def f33 (a0 : ByteArray) (a1 : Int) : Option ((Int × Unit) × (Unit)) := f33_k a0 a1 some
noncomputable def f33_sm : Sm := { ps := [.ro .str, .ro (.int .u8)], rs := [((.int .i64), .ro)], F := fun x => f33 x.1 x.2.1 }
theorem f33_m (x : ArgT [.ro .str, .ro (.int .u8)]) : codeS f33_fx f33_code (start [.ro .str, .ro (.int .u8)] [] x 8) (finK env [.tmp 4] [.ro .str, .ro (.int .u8)] [((.int .i64), .ro)]) = f33_k x.1 x.2.1 (fun r => some (r, [])) := by kernel_rfl
theorem f33_n {R : Type} (a0 : ByteArray) (a1 : Int) (k : (Int × Unit) × (Unit) → Option R) : f33_k a0 a1 k = (f33 a0 a1).bind k := by
  simp only [f33, f33_k, cond_bind, ite_bind, bind_bind, some_bind, none_bind, elim_bind, whenS_bind]
theorem f33_ok : SmOk Try.prog 33 f33_sm :=
  sum_of (c := f33_fx) (fn := Try.f33) (code := f33_code) (sm := f33_sm) mixed (env_ok env_envB) (TabsOk.all ⟨f67_c, trivial⟩) Try.func33 (by kernel_rfl)
   ((LoopsOk.of (l := []) (by kernel_rfl) trivial))
   (no_tails (by kernel_rfl)) rfl
   (fun ks x hl => by
    have hk : ks = [] := List.length_eq_zero_iff.1 hl
    subst hk
    exact (f33_m x).trans (f33_n _ _ _))
theorem f33_c : CalOk Try.prog 33 f33_sm := .inl ⟨f33_ok, ⟨Try.f33, Try.func33, by kernel_rfl, by kernel_rfl⟩⟩
noncomputable def f12_code : Code := (Try.f12.body).getD .skip
noncomputable def f12_l4_sk : SkS := ⟨7, [(24, .con (.slc (.int .u8))), (0, .con (.int .i64)), (0, .con (.int .i64))], []⟩
noncomputable def f12_l4_o0 : SkS := ⟨31, [(2, .con .bool)], []⟩
noncomputable def f12_l4_o1 : SkS := ⟨34, [], []⟩
noncomputable def f12_l4_outs : List Way := [⟨.ret, [], f12_l4_o0⟩, ⟨(.exit 0), [], f12_l4_o1⟩]
abbrev f12_l4_C := (List Int × Int)
abbrev f12_l4_X := Int
abbrev f12_l4_Y := (Unit) ⊕ (Unit)
noncomputable def f12_l4_con (t : f12_l4_sk.T) : f12_l4_C := (t.1.1, t.1.2.1)
noncomputable def f12_l4_get (t : f12_l4_sk.T) : f12_l4_X := t.1.2.2.1
noncomputable def f12_l4_put (c : f12_l4_C) (x : f12_l4_X) : f12_l4_sk.T := ((c.1, (c.2, (x, ()))), ())
theorem f12_l4_pg (t : f12_l4_sk.T) : f12_l4_put (f12_l4_con t) (f12_l4_get t) = t := by kernel_rfl
noncomputable def f12_l4_w0 (c : f12_l4_C) (y : Unit) : f12_l4_o0.T := ((false, ()), ())
noncomputable def f12_l4_w1 (c : f12_l4_C) (y : Unit) : f12_l4_o1.T := ((), ())
noncomputable def f12_l4_out (c : f12_l4_C) (y : f12_l4_Y) : OutV f12_l4_outs := (Sum.elim (fun y => (.inl (f12_l4_w0 c y))) (fun y => (.inr (.inl (f12_l4_w1 c y))))) y
noncomputable def f12_l4_k {R : Type} (a0 : List Int) (a1 : Int) (a2 : Int) (kin : f12_l4_X → Option R) (k0 : Unit → Option R) (k1 : Unit → Option R) : Option R :=
 (cond (decide (a2 < a1))
 (if (0 : Int) ≤ a2 ∧ a2 < ((List.length a0 : Nat) : Int) then ((f33 (⟨#[97, 98, 99, 100, 101, 102, 103, 104, 105, 106, 107, 108, 109, 110, 111, 112, 113, 114, 115, 116, 117, 118, 119, 120, 121, 122, 48, 49, 50, 51, 52, 53, 54, 55, 56, 57, 45]⟩ : ByteArray) (List.getD a0 (Int.toNat a2) (0 : Int))).bind fun r0 =>
  (cond (decide (r0.1.1 < (0 : Int)))
  (k0 ())
  (let v1 : Int := (IntKind.i64.wrap (a2 + (1 : Int)))
   (kin v1)))) else none)
 (k1 ()))
noncomputable def f12_l4_g (a0 : List Int) (a1 : Int) (x : f12_l4_X) : Option (f12_l4_X ⊕ f12_l4_Y) := f12_l4_k a0 a1 x (fun x => some (.inl x)) (fun y => some (.inr (.inl y))) (fun y => some (.inr (.inr y)))
noncomputable def f12_l4 (a0 : List Int) (a1 : Int) (x : f12_l4_X) : Option f12_l4_Y := loopO (f12_l4_g a0 a1) x
noncomputable def f12_l4_nd : Node := { nils := [], sk := f12_l4_sk, outs := f12_l4_outs, Y := f12_l4_Y, L := fun t => f12_l4 ((f12_l4_con t).1) ((f12_l4_con t).2) (f12_l4_get t), out := fun t y => f12_l4_out (f12_l4_con t) y, disp := fun t y K => (Sum.elim (fun y => K .ret (f12_l4_o0.fill (f12_l4_w0 (f12_l4_con t) y))) (fun y => K (.exit 0) (f12_l4_o1.fill (f12_l4_w1 (f12_l4_con t) y)))) y }
noncomputable def f12_fx : Fx := { E := env, T := [(33, f33_sm)], H := [], O := [], nodes := [((true, 4), f12_l4_nd)] }
noncomputable def f12_l4_b : Code := (loops f12_code).getD 0 .skip
theorem f12_l4_r (c : f12_l4_C) (x : f12_l4_X) : roundS f12_fx f12_l4_b f12_l4_nd (f12_l4_put c x) = f12_l4_k c.1 c.2 x (fun x => some (.inl (f12_l4_put c x))) (fun y => some (.inr (.inl (f12_l4_w0 c y)))) (fun y => some (.inr (.inr (.inl (f12_l4_w1 c y))))) := by kernel_rfl
theorem f12_l4_n {R : Type} (a0 : List Int) (a1 : Int) (a2 : Int) (kin : f12_l4_X → Option R) (k0 : Unit → Option R) (k1 : Unit → Option R) : f12_l4_k a0 a1 a2 kin k0 k1 = (f12_l4_g a0 a1 a2).bind (Sum.elim kin (Sum.elim k0 k1)) := by
  simp only [f12_l4_g, f12_l4_k, cond_bind, ite_bind, bind_bind, some_bind, none_bind, elim_bind, whenS_bind, Sum.elim_inl, Sum.elim_inr]
theorem f12_l4_ok : LoopOk f12_fx f12_l4_b f12_l4_nd := loop_ok f12_l4_con f12_l4_get f12_l4_put f12_l4_pg (fun c => f12_l4_g c.1 c.2) f12_l4_out (fun t y => rfl) (by intro R t y K; rcases y with y | y <;> rfl) (fun c x => by
  refine (f12_l4_r c x).trans ((f12_l4_n _ _ _ _ _ _).trans ?_)
  first
  | rfl
  | congr 1
    funext s
    rcases s with s | s | s <;> rfl) (fun t => rfl)
noncomputable def f12_k {R : Type} (a0 : ByteArray) (k : (Bool × Unit) × (Unit) → Option R) : Option R :=
 (cond (decide (((ByteArray.size a0 : Nat) : Int) < (1 : Int)))
 (k ((false, ()), ()))
 (cond (decide (((ByteArray.size a0 : Nat) : Int) > (20 : Int)))
  (k ((false, ()), ()))
  (if (0 : Int) ≤ (0 : Int) ∧ (0 : Int) < ((ByteArray.size a0 : Nat) : Int) then (cond (decide ((bt a0 (0 : Int)) < (97 : Int)))
   (k ((false, ()), ()))
   (if (0 : Int) ≤ (0 : Int) ∧ (0 : Int) < ((ByteArray.size a0 : Nat) : Int) then (cond (decide ((bt a0 (0 : Int)) > (122 : Int)))
    (k ((false, ()), ()))
    ((f12_l4 (s2b a0) ((List.length (s2b a0) : Nat) : Int) (0 : Int)).bind fun y2 =>
     ((Sum.elim (fun z3 =>
     (k ((false, ()), ())))
     (fun z4 =>
     (k ((true, ()), ())))) y2))) else none)) else none)))
noncomputable def f12 (a0 : ByteArray) : Option ((Bool × Unit) × (Unit)) := f12_k a0 some
noncomputable def f12_sm : Sm := { ps := [.ro .str], rs := [(.bool, .ro)], F := fun x => f12 x.1 }
theorem f12_m (x : ArgT [.ro .str]) : codeS f12_fx f12_code (start [.ro .str] [] x 34) (finK env [.tmp 2] [.ro .str] [(.bool, .ro)]) = f12_k x.1 (fun r => some (r, [])) := by kernel_rfl
theorem f12_n {R : Type} (a0 : ByteArray) (k : (Bool × Unit) × (Unit) → Option R) : f12_k a0 k = (f12 a0).bind k := by
  simp only [f12, f12_k, cond_bind, ite_bind, bind_bind, some_bind, none_bind, elim_bind, whenS_bind]
theorem f12_ok : SmOk Try.prog 12 f12_sm :=
  sum_of (c := f12_fx) (fn := Try.f12) (code := f12_code) (sm := f12_sm) mixed (env_ok env_envB) (TabsOk.all ⟨f33_c, trivial⟩) Try.func12 (by kernel_rfl)
   ((LoopsOk.of (l := [f12_l4_b]) (by kernel_rfl) ⟨node_is (by kernel_rfl) f12_l4_ok, trivial⟩))
   (no_tails (by kernel_rfl)) rfl
   (fun ks x hl => by
    have hk : ks = [] := List.length_eq_zero_iff.1 hl
    subst hk
    exact (f12_m x).trans (f12_n _ _))
theorem f12_c : CalOk Try.prog 12 f12_sm := .inl ⟨f12_ok, ⟨Try.f12, Try.func12, by kernel_rfl, by kernel_rfl⟩⟩
noncomputable def f77_code : Code := (Try.f77.body).getD .skip
noncomputable def f77_fx : Fx := { E := env, T := [], H := [], O := [], nodes := [] }
noncomputable def f77_k {R : Type} (a0 : Qv1) (a1 : List Int) (k : (Bool × Unit) × (Unit) → Option R) : Option R :=
 (k (((strEq a0.2.1 (b2s a1)), ()), ()))
noncomputable def f77 (a0 : Qv1) (a1 : List Int) : Option ((Bool × Unit) × (Unit)) := f77_k a0 a1 some
noncomputable def f77_sm : Sm := { ps := [.ro Qt4, .lk (.slc (.int .u8))], rs := [(.bool, .ro)], F := fun x => f77 x.1 x.2.1 }
theorem f77_m (x : ArgT [.ro Qt4, .lk (.slc (.int .u8))]) : codeS f77_fx f77_code (start [.ro Qt4, .lk (.slc (.int .u8))] [] x 9) (finK env [.tmp 3] [.ro Qt4, .lk (.slc (.int .u8))] [(.bool, .ro)]) = f77_k x.1 x.2.1 (fun r => some (r, [])) := by kernel_rfl
theorem f77_n {R : Type} (a0 : Qv1) (a1 : List Int) (k : (Bool × Unit) × (Unit) → Option R) : f77_k a0 a1 k = (f77 a0 a1).bind k := by
  simp only [f77, f77_k, cond_bind, ite_bind, bind_bind, some_bind, none_bind, elim_bind, whenS_bind]
theorem f77_ok : SmOk Try.prog 77 f77_sm :=
  sum_of (c := f77_fx) (fn := Try.f77) (code := f77_code) (sm := f77_sm) mixed (env_ok env_envB) (TabsOk.all trivial) Try.func77 (by kernel_rfl)
   ((LoopsOk.of (l := []) (by kernel_rfl) trivial))
   (no_tails (by kernel_rfl)) rfl
   (fun ks x hl => by
    have hk : ks = [] := List.length_eq_zero_iff.1 hl
    subst hk
    exact (f77_m x).trans (f77_n _ _ _))
theorem f77_c : CalOk Try.prog 77 f77_sm := .inl ⟨f77_ok, ⟨Try.f77, Try.func77, by kernel_rfl, by kernel_rfl⟩⟩
noncomputable def f45_code : Code := (Try.f45.body).getD .skip
noncomputable def f45_l2_sk : SkS := ⟨10, [(0, .con (.slc Qt4)), (0, .fn 77 (.tcons (.pro (.slc (.int .u8))) (.tnil))), (5, .con (.int .i64)), (0, .con (.int .i64))], []⟩
noncomputable def f45_l2_o0 : SkS := ⟨14, [(4, .con (.int .i64))], []⟩
noncomputable def f45_l2_o1 : SkS := ⟨19, [], []⟩
noncomputable def f45_l2_outs : List Way := [⟨.ret, [], f45_l2_o0⟩, ⟨(.exit 0), [], f45_l2_o1⟩]
abbrev f45_l2_C := (List Qv1 × List Int × Int)
abbrev f45_l2_X := Int
abbrev f45_l2_Y := (Int) ⊕ (Unit)
noncomputable def f45_l2_con (t : f45_l2_sk.T) : f45_l2_C := (t.1.1, t.1.2.1.1, t.1.2.2.1)
noncomputable def f45_l2_get (t : f45_l2_sk.T) : f45_l2_X := t.1.2.2.2.1
noncomputable def f45_l2_put (c : f45_l2_C) (x : f45_l2_X) : f45_l2_sk.T := ((c.1, ((c.2.1, ()), (c.2.2, (x, ())))), ())
theorem f45_l2_pg (t : f45_l2_sk.T) : f45_l2_put (f45_l2_con t) (f45_l2_get t) = t := by kernel_rfl
noncomputable def f45_l2_w0 (c : f45_l2_C) (y : Int) : f45_l2_o0.T := ((y, ()), ())
noncomputable def f45_l2_w1 (c : f45_l2_C) (y : Unit) : f45_l2_o1.T := ((), ())
noncomputable def f45_l2_out (c : f45_l2_C) (y : f45_l2_Y) : OutV f45_l2_outs := (Sum.elim (fun y => (.inl (f45_l2_w0 c y))) (fun y => (.inr (.inl (f45_l2_w1 c y))))) y
noncomputable def f45_l2_k {R : Type} (a0 : List Qv1) (a1 : List Int) (a2 : Int) (a3 : Int) (kin : f45_l2_X → Option R) (k0 : Int → Option R) (k1 : Unit → Option R) : Option R :=
 (cond (decide (a3 < a2))
 (if (0 : Int) ≤ a3 ∧ a3 < ((List.length a0 : Nat) : Int) then ((f77 (List.getD a0 (Int.toNat a3) ((0 : Int), (ByteArray.empty, ((0 : Int), (([] : List Int), ()))))) a1).bind fun r0 =>
  (cond r0.1.1
  (k0 a3)
  (let v1 : Int := (IntKind.i64.wrap (a3 + (1 : Int)))
   (kin v1)))) else none)
 (k1 ()))
noncomputable def f45_l2_g (a0 : List Qv1) (a1 : List Int) (a2 : Int) (x : f45_l2_X) : Option (f45_l2_X ⊕ f45_l2_Y) := f45_l2_k a0 a1 a2 x (fun x => some (.inl x)) (fun y => some (.inr (.inl y))) (fun y => some (.inr (.inr y)))
noncomputable def f45_l2 (a0 : List Qv1) (a1 : List Int) (a2 : Int) (x : f45_l2_X) : Option f45_l2_Y := loopO (f45_l2_g a0 a1 a2) x
noncomputable def f45_l2_nd : Node := { nils := [], sk := f45_l2_sk, outs := f45_l2_outs, Y := f45_l2_Y, L := fun t => f45_l2 ((f45_l2_con t).1) ((f45_l2_con t).2.1) ((f45_l2_con t).2.2) (f45_l2_get t), out := fun t y => f45_l2_out (f45_l2_con t) y, disp := fun t y K => (Sum.elim (fun y => K .ret (f45_l2_o0.fill (f45_l2_w0 (f45_l2_con t) y))) (fun y => K (.exit 0) (f45_l2_o1.fill (f45_l2_w1 (f45_l2_con t) y)))) y }
noncomputable def f45_fx : Fx := { E := env, T := [(77, f77_sm)], H := [], O := [], nodes := [((true, 2), f45_l2_nd)] }
noncomputable def f45_l2_b : Code := (loops f45_code).getD 0 .skip
theorem f45_l2_r (c : f45_l2_C) (x : f45_l2_X) : roundS f45_fx f45_l2_b f45_l2_nd (f45_l2_put c x) = f45_l2_k c.1 c.2.1 c.2.2 x (fun x => some (.inl (f45_l2_put c x))) (fun y => some (.inr (.inl (f45_l2_w0 c y)))) (fun y => some (.inr (.inr (.inl (f45_l2_w1 c y))))) := by kernel_rfl
theorem f45_l2_n {R : Type} (a0 : List Qv1) (a1 : List Int) (a2 : Int) (a3 : Int) (kin : f45_l2_X → Option R) (k0 : Int → Option R) (k1 : Unit → Option R) : f45_l2_k a0 a1 a2 a3 kin k0 k1 = (f45_l2_g a0 a1 a2 a3).bind (Sum.elim kin (Sum.elim k0 k1)) := by
  simp only [f45_l2_g, f45_l2_k, cond_bind, ite_bind, bind_bind, some_bind, none_bind, elim_bind, whenS_bind, Sum.elim_inl, Sum.elim_inr]
theorem f45_l2_ok : LoopOk f45_fx f45_l2_b f45_l2_nd := loop_ok f45_l2_con f45_l2_get f45_l2_put f45_l2_pg (fun c => f45_l2_g c.1 c.2.1 c.2.2) f45_l2_out (fun t y => rfl) (by intro R t y K; rcases y with y | y <;> rfl) (fun c x => by
  refine (f45_l2_r c x).trans ((f45_l2_n _ _ _ _ _ _ _).trans ?_)
  first
  | rfl
  | congr 1
    funext s
    rcases s with s | s | s <;> rfl) (fun t => rfl)
noncomputable def f45_k {R : Type} (a0 : List Qv1) (a1 : (List Int × Unit)) (k : (Int × Unit) × (Unit) → Option R) : Option R :=
 ((f45_l2 a0 a1.1 ((List.length a0 : Nat) : Int) (0 : Int)).bind fun y2 =>
 ((Sum.elim (fun z3 =>
 (k ((z3, ()), ())))
 (fun z4 =>
 (k (((-1 : Int), ()), ())))) y2))
noncomputable def f45 (a0 : List Qv1) (a1 : (List Int × Unit)) : Option ((Int × Unit) × (Unit)) := f45_k a0 a1 some
noncomputable def f45_sm : Sm := { ps := [.ro (.slc Qt4), .fn 77 [(true, (.slc (.int .u8)))]], rs := [((.int .i64), .ro)], F := fun x => f45 x.1 x.2.1 }
theorem f45_m (x : ArgT [.ro (.slc Qt4), .fn 77 [(true, (.slc (.int .u8)))]]) : codeS f45_fx f45_code (start [.ro (.slc Qt4), .fn 77 [(true, (.slc (.int .u8)))]] [] x 19) (finK env [.tmp 4] [.ro (.slc Qt4), .fn 77 [(true, (.slc (.int .u8)))]] [((.int .i64), .ro)]) = f45_k x.1 x.2.1 (fun r => some (r, [])) := by kernel_rfl
theorem f45_n {R : Type} (a0 : List Qv1) (a1 : (List Int × Unit)) (k : (Int × Unit) × (Unit) → Option R) : f45_k a0 a1 k = (f45 a0 a1).bind k := by
  simp only [f45, f45_k, cond_bind, ite_bind, bind_bind, some_bind, none_bind, elim_bind, whenS_bind]
theorem f45_ok : SmOk Try.prog 45 f45_sm :=
  sum_of (c := f45_fx) (fn := Try.f45) (code := f45_code) (sm := f45_sm) mixed (env_ok env_envB) (TabsOk.all ⟨f77_c, trivial⟩) Try.func45 (by kernel_rfl)
   ((LoopsOk.of (l := [f45_l2_b]) (by kernel_rfl) ⟨node_is (by kernel_rfl) f45_l2_ok, trivial⟩))
   (no_tails (by kernel_rfl)) rfl
   (fun ks x hl => by
    have hk : ks = [] := List.length_eq_zero_iff.1 hl
    subst hk
    exact (f45_m x).trans (f45_n _ _ _))
theorem f45_c : CalOk Try.prog 45 f45_sm := .inl ⟨f45_ok, ⟨Try.f45, Try.func45, by kernel_rfl, by kernel_rfl⟩⟩
noncomputable def f43_code : Code := (Try.f43.body).getD .skip
noncomputable def f43_fx : Fx := { E := env, T := [(45, f45_sm)], H := [], O := [], nodes := [] }
noncomputable def f43_k {R : Type} (a0 : List Qv1) (a1 : (List Int × Unit)) (k : (Bool × Unit) × (Unit) → Option R) : Option R :=
 ((f45 a0 (a1.1, ())).bind fun r0 =>
 (k (((decide (r0.1.1 ≥ (0 : Int))), ()), ())))
noncomputable def f43 (a0 : List Qv1) (a1 : (List Int × Unit)) : Option ((Bool × Unit) × (Unit)) := f43_k a0 a1 some
noncomputable def f43_sm : Sm := { ps := [.ro (.slc Qt4), .fn 77 [(true, (.slc (.int .u8)))]], rs := [(.bool, .ro)], F := fun x => f43 x.1 x.2.1 }
theorem f43_m (x : ArgT [.ro (.slc Qt4), .fn 77 [(true, (.slc (.int .u8)))]]) : codeS f43_fx f43_code (start [.ro (.slc Qt4), .fn 77 [(true, (.slc (.int .u8)))]] [] x 9) (finK env [.tmp 4] [.ro (.slc Qt4), .fn 77 [(true, (.slc (.int .u8)))]] [(.bool, .ro)]) = f43_k x.1 x.2.1 (fun r => some (r, [])) := by kernel_rfl
theorem f43_n {R : Type} (a0 : List Qv1) (a1 : (List Int × Unit)) (k : (Bool × Unit) × (Unit) → Option R) : f43_k a0 a1 k = (f43 a0 a1).bind k := by
  simp only [f43, f43_k, cond_bind, ite_bind, bind_bind, some_bind, none_bind, elim_bind, whenS_bind]
theorem f43_ok : SmOk Try.prog 43 f43_sm :=
  sum_of (c := f43_fx) (fn := Try.f43) (code := f43_code) (sm := f43_sm) mixed (env_ok env_envB) (TabsOk.all ⟨f45_c, trivial⟩) Try.func43 (by kernel_rfl)
   ((LoopsOk.of (l := []) (by kernel_rfl) trivial))
   (no_tails (by kernel_rfl)) rfl
   (fun ks x hl => by
    have hk : ks = [] := List.length_eq_zero_iff.1 hl
    subst hk
    exact (f43_m x).trans (f43_n _ _ _))
theorem f43_c : CalOk Try.prog 43 f43_sm := .inl ⟨f43_ok, ⟨Try.f43, Try.func43, by kernel_rfl, by kernel_rfl⟩⟩
noncomputable def f40_code : Code := (Try.f40.body).getD .skip
noncomputable def f40_l9_sk : SkS := ⟨198, [(1, .ptr 16 []), (4, .con (.int .i64)), (0, .ref 704 []), (37, .ref 704 []), (0, .con (.int .i64)), (0, .con (.int .i64))], [(16, ⟨some 24, Qt2, .ro, none⟩), (704, ⟨none, (.slc (.int .u8)), (.own .ro), none⟩)]⟩
noncomputable def f40_l9_o0 : SkS := ⟨241, [(2, .nil), (0, .nil), (0, .con (.int .i64))], []⟩
noncomputable def f40_l9_o1 : SkS := ⟨238, [(1, .ptr 16 []), (4, .con (.int .i64)), (0, .ref 704 [])], [(16, ⟨some 24, Qt2, .ro, none⟩), (704, ⟨none, (.slc (.int .u8)), (.own .ro), none⟩)]⟩
noncomputable def f40_l9_outs : List Way := [⟨.ret, [], f40_l9_o0⟩, ⟨(.exit 0), [], f40_l9_o1⟩]
abbrev f40_l9_C := (Int × Int × Qv0 × List Int × (Option Nat))
abbrev f40_l9_X := Int
abbrev f40_l9_Y := (Unit) ⊕ (Unit)
noncomputable def f40_l9_con (t : f40_l9_sk.T) : f40_l9_C := (t.1.1, t.1.2.1, t.2.1.1, t.2.2.1.1, t.2.1.2)
noncomputable def f40_l9_get (t : f40_l9_sk.T) : f40_l9_X := t.1.2.2.1
noncomputable def f40_l9_put (c : f40_l9_C) (x : f40_l9_X) : f40_l9_sk.T := ((c.1, (c.2.1, (x, ()))), ((c.2.2.1, c.2.2.2.2), ((c.2.2.2.1, ()), ())))
theorem f40_l9_pg (t : f40_l9_sk.T) : f40_l9_put (f40_l9_con t) (f40_l9_get t) = t := by kernel_rfl
noncomputable def f40_l9_w0 (c : f40_l9_C) (y : Unit) : f40_l9_o0.T := (((3 : Int), ()), ())
noncomputable def f40_l9_w1 (c : f40_l9_C) (y : Unit) : f40_l9_o1.T := ((c.1, ()), ((c.2.2.1, c.2.2.2.2), ((c.2.2.2.1, ()), ())))
noncomputable def f40_l9_out (c : f40_l9_C) (y : f40_l9_Y) : OutV f40_l9_outs := (Sum.elim (fun y => (.inl (f40_l9_w0 c y))) (fun y => (.inr (.inl (f40_l9_w1 c y))))) y
noncomputable def f40_l9_k {R : Type} (a0 : Int) (a1 : Int) (a2 : Int) (a3 : Qv0) (a4 : List Int) (kin : f40_l9_X → Option R) (k0 : Unit → Option R) (k1 : Unit → Option R) : Option R :=
 (cond (decide (a2 < a1))
 (if (0 : Int) ≤ a2 ∧ a2 < ((List.length a4 : Nat) : Int) then (cond ((List.getD a4 (Int.toNat a2) (0 : Int)) == (255 : Int))
  (cond (decide (a2 < (10 : Int)))
   (cond (!((List.getD a4 (Int.toNat a2) (0 : Int)) == (253 : Int)))
    (k0 ())
    (let v2 : Int := (IntKind.i64.wrap (a2 + (1 : Int)))
     (kin v2)))
   (cond (decide (a2 ≥ a0))
    (cond (!((List.getD a4 (Int.toNat a2) (0 : Int)) == (253 : Int)))
     (k0 ())
     (let v3 : Int := (IntKind.i64.wrap (a2 + (1 : Int)))
      (kin v3)))
    (let v4 : Int := (IntKind.i64.wrap (a2 + (1 : Int)))
     (kin v4))))
  (cond ((List.getD a4 (Int.toNat a2) (0 : Int)) == (254 : Int))
   (cond (decide (a2 < (10 : Int)))
    (cond (!((List.getD a4 (Int.toNat a2) (0 : Int)) == (253 : Int)))
     (k0 ())
     (let v5 : Int := (IntKind.i64.wrap (a2 + (1 : Int)))
      (kin v5)))
    (cond (decide (a2 ≥ a0))
     (cond (!((List.getD a4 (Int.toNat a2) (0 : Int)) == (253 : Int)))
      (k0 ())
      (let v6 : Int := (IntKind.i64.wrap (a2 + (1 : Int)))
       (kin v6)))
     (let v7 : Int := (IntKind.i64.wrap (a2 + (1 : Int)))
      (kin v7))))
   (cond (decide ((List.getD a4 (Int.toNat a2) (0 : Int)) ≥ (10 : Int)))
    (let v8 : Int := (IntKind.i64.wrap (List.getD a4 (Int.toNat a2) (0 : Int)))
     (cond (decide (a2 < (10 : Int)))
     (cond (!((List.getD a4 (Int.toNat a2) (0 : Int)) == (253 : Int)))
      (k0 ())
      (let v9 : Int := (IntKind.i64.wrap (a2 + (1 : Int)))
       (kin v9)))
     (cond (decide (a2 ≥ a0))
      (cond (!((List.getD a4 (Int.toNat a2) (0 : Int)) == (253 : Int)))
       (k0 ())
       (let v10 : Int := (IntKind.i64.wrap (a2 + (1 : Int)))
        (kin v10)))
      (cond (!(decide (v8 < a0)))
       (k0 ())
       (let v11 : Int := (IntKind.i64.wrap (a2 + (1 : Int)))
        (kin v11))))))
    (cond (decide (a2 < (10 : Int)))
     (cond (!((List.getD a4 (Int.toNat a2) (0 : Int)) == (253 : Int)))
      (k0 ())
      (let v12 : Int := (IntKind.i64.wrap (a2 + (1 : Int)))
       (kin v12)))
     (cond (decide (a2 ≥ a0))
      (cond (!((List.getD a4 (Int.toNat a2) (0 : Int)) == (253 : Int)))
       (k0 ())
       (let v13 : Int := (IntKind.i64.wrap (a2 + (1 : Int)))
        (kin v13)))
      (k0 ())))))) else none)
 (k1 ()))
noncomputable def f40_l9_g (a0 : Int) (a1 : Int) (a3 : Qv0) (a4 : List Int) (x : f40_l9_X) : Option (f40_l9_X ⊕ f40_l9_Y) := f40_l9_k a0 a1 x a3 a4 (fun x => some (.inl x)) (fun y => some (.inr (.inl y))) (fun y => some (.inr (.inr y)))
noncomputable def f40_l9 (a0 : Int) (a1 : Int) (a3 : Qv0) (a4 : List Int) (x : f40_l9_X) : Option f40_l9_Y := loopO (f40_l9_g a0 a1 a3 a4) x
noncomputable def f40_l9_nd : Node := { nils := [], sk := f40_l9_sk, outs := f40_l9_outs, Y := f40_l9_Y, L := fun t => f40_l9 ((f40_l9_con t).1) ((f40_l9_con t).2.1) ((f40_l9_con t).2.2.1) ((f40_l9_con t).2.2.2.1) (f40_l9_get t), out := fun t y => f40_l9_out (f40_l9_con t) y, disp := fun t y K => (Sum.elim (fun y => K .ret (f40_l9_o0.fill (f40_l9_w0 (f40_l9_con t) y))) (fun y => K (.exit 0) (f40_l9_o1.fill (f40_l9_w1 (f40_l9_con t) y)))) y }
noncomputable def f40_l20_sk : SkS := ⟨161, [(6, .con (.int .i64)), (0, .ref 704 []), (3, .con (.slc (.int .u8))), (0, .ref 207 []), (71, .con (.int .i64))], [(207, ⟨none, (.slc Qt4), (.own Qt5), none⟩), (704, ⟨none, (.slc (.int .u8)), (.own .ro), none⟩)]⟩
noncomputable def f40_l20_o0 : SkS := ⟨241, [(2, .nil), (0, .nil), (0, .con (.int .i64))], []⟩
noncomputable def f40_l20_o1 : SkS := ⟨233, [(6, .con (.int .i64)), (0, .ref 704 []), (3, .con (.slc (.int .u8))), (0, .ref 207 [])], [(207, ⟨none, (.slc Qt4), (.own Qt5), none⟩), (704, ⟨none, (.slc (.int .u8)), (.own .ro), none⟩)]⟩
noncomputable def f40_l20_outs : List Way := [⟨.ret, [], f40_l20_o0⟩, ⟨(.exit 2), [], f40_l20_o1⟩]
abbrev f40_l20_C := (Int × List Int × List Int)
abbrev f40_l20_X := (Int × List Qv1)
abbrev f40_l20_Y := (Int) ⊕ (List Qv1)
noncomputable def f40_l20_con (t : f40_l20_sk.T) : f40_l20_C := (t.1.1, t.1.2.1, t.2.2.1.1)
noncomputable def f40_l20_get (t : f40_l20_sk.T) : f40_l20_X := (t.1.2.2.1, t.2.1.1)
noncomputable def f40_l20_put (c : f40_l20_C) (x : f40_l20_X) : f40_l20_sk.T := ((c.1, (c.2.1, (x.1, ()))), ((x.2, ()), ((c.2.2, ()), ())))
theorem f40_l20_pg (t : f40_l20_sk.T) : f40_l20_put (f40_l20_con t) (f40_l20_get t) = t := by kernel_rfl
noncomputable def f40_l20_w0 (c : f40_l20_C) (y : Int) : f40_l20_o0.T := ((y, ()), ())
noncomputable def f40_l20_w1 (c : f40_l20_C) (y : List Qv1) : f40_l20_o1.T := ((c.1, (c.2.1, ())), ((y, ()), ((c.2.2, ()), ())))
noncomputable def f40_l20_out (c : f40_l20_C) (y : f40_l20_Y) : OutV f40_l20_outs := (Sum.elim (fun y => (.inl (f40_l20_w0 c y))) (fun y => (.inr (.inl (f40_l20_w1 c y))))) y
noncomputable def f40_l20_k {R : Type} (a0 : Int) (a1 : List Int) (a2 : Int) (a3 : List Qv1) (a4 : List Int) (kin : f40_l20_X → Option R) (k0 : Int → Option R) (k1 : List Qv1 → Option R) : Option R :=
 (cond (decide (a2 < (32 : Int)))
 (let v18 : Int := (IntKind.i64.wrap ((32 : Int) * a2))
  (let v19 : Int := (IntKind.i64.wrap ((32 : Int) * a2))
  (let v20 : Int := (IntKind.i64.wrap (v19 + (32 : Int)))
  (if (0 : Int) ≤ v18 ∧ v18 ≤ v20 ∧ v20 ≤ ((List.length a1 : Nat) : Int) then (if (0 : Int) ≤ (0 : Int) ∧ (0 : Int) < ((List.length (List.take ((Int.toNat v20) - (Int.toNat v18)) (List.drop (Int.toNat v18) a1)) : Nat) : Int) then (cond ((List.getD (List.take ((Int.toNat v20) - (Int.toNat v18)) (List.drop (Int.toNat v18) a1)) 0 (0 : Int)) == (0 : Int))
  ((f74 (List.take ((Int.toNat v20) - (Int.toNat v18)) (List.drop (Int.toNat v18) a1)) [(0 : Int)]).bind fun r21 =>
   (cond (r21.1.1 != (32 : Int))
   (k0 (3 : Int))
   (let v22 : Int := (IntKind.i64.wrap (a2 + (1 : Int)))
    (kin (v22, a3)))))
  (if (0 : Int) ≤ (0 : Int) ∧ (0 : Int) ≤ (20 : Int) ∧ (20 : Int) ≤ ((List.length (List.take ((Int.toNat v20) - (Int.toNat v18)) (List.drop (Int.toNat v18) a1)) : Nat) : Int) then ((f75 (List.take 20 (List.drop 0 (List.take ((Int.toNat v20) - (Int.toNat v18)) (List.drop (Int.toNat v18) a1)))) [(0 : Int)]).bind fun r23 =>
   ((f71 r23.1.1).bind fun r24 =>
   (let v25 : Int := (IntKind.i64.wrap ((20 : Int) - ((List.length r23.1.1 : Nat) : Int)))
   (if (0 : Int) ≤ v25 ∧ v25 * 1 ≤ (most : Int) ∧ flat (.int .u8) = true ∧ 0 < 1 ∧ 0 < 1 then (if (List.length r24.1.1 + List.length (List.replicate (Int.toNat v25) (0 : Int))) * 1 ≤ most ∧ 0 < 1 ∧ 0 < 1 then (let r26 : List Int := (r24.1.1 ++ (List.replicate (Int.toNat v25) (0 : Int)))
   ((f12 (b2s r23.1.1)).bind fun r27 =>
   (cond (!r27.1.1)
   (k0 (15 : Int))
   (if (0 : Int) ≤ (0 : Int) ∧ (0 : Int) ≤ (20 : Int) ∧ (20 : Int) ≤ ((List.length (List.take ((Int.toNat v20) - (Int.toNat v18)) (List.drop (Int.toNat v18) a1)) : Nat) : Int) then ((f76 r26 (List.take 20 (List.drop 0 (List.take ((Int.toNat v20) - (Int.toNat v18)) (List.drop (Int.toNat v18) a1))))).bind fun r28 =>
    (cond (!r28.1.1)
    (k0 (15 : Int))
    (if (0 : Int) ≤ (23 : Int) ∧ (23 : Int) ≤ ((List.length (List.take ((Int.toNat v20) - (Int.toNat v18)) (List.drop (Int.toNat v18) a1)) : Nat) : Int) ∧ ((List.length (List.take ((Int.toNat v20) - (Int.toNat v18)) (List.drop (Int.toNat v18) a1)) : Nat) : Int) ≤ ((List.length (List.take ((Int.toNat v20) - (Int.toNat v18)) (List.drop (Int.toNat v18) a1)) : Nat) : Int) then ((f74 (List.take ((Int.toNat ((List.length (List.take ((Int.toNat v20) - (Int.toNat v18)) (List.drop (Int.toNat v18) a1)) : Nat) : Int)) - 23) (List.drop 23 (List.take ((Int.toNat v20) - (Int.toNat v18)) (List.drop (Int.toNat v18) a1)))) [(0 : Int)]).bind fun r29 =>
     (cond (r29.1.1 != (9 : Int))
     (k0 (15 : Int))
     ((f43 a3 (r23.1.1, ())).bind fun r30 =>
      (cond r30.1.1
      (k0 (5 : Int))
      (if (0 : Int) ≤ (21 : Int) ∧ (21 : Int) < ((List.length (List.take ((Int.toNat v20) - (Int.toNat v18)) (List.drop (Int.toNat v18) a1)) : Nat) : Int) then (let v31 : Int := (IntKind.i64.wrap (List.getD (List.take ((Int.toNat v20) - (Int.toNat v18)) (List.drop (Int.toNat v18) a1)) 21 (0 : Int)))
       (let v32 : Int := (IntKind.i64.wrap ((256 : Int) * v31))
       (if (0 : Int) ≤ (22 : Int) ∧ (22 : Int) < ((List.length (List.take ((Int.toNat v20) - (Int.toNat v18)) (List.drop (Int.toNat v18) a1)) : Nat) : Int) then (let v33 : Int := (IntKind.i64.wrap (List.getD (List.take ((Int.toNat v20) - (Int.toNat v18)) (List.drop (Int.toNat v18) a1)) 22 (0 : Int)))
       (let v34 : Int := (IntKind.i64.wrap (v32 + v33))
       (if (List.length a3 + 1) * 56 ≤ most ∧ 0 < 56 ∧ 0 < 4 then (let r35 : List Qv1 := (a3 ++ [(a2, ((b2s r23.1.1), (v34, ([], ()))))])
       (let v36 : Int := (IntKind.i64.wrap (a2 + (1 : Int)))
       (kin (v36, r35)))) else none))) else none))) else none))))) else none))) else none)))) else none) else none)))) else none)) else none) else none))))
 (k1 a3))
noncomputable def f40_l20_g (a0 : Int) (a1 : List Int) (a4 : List Int) (x : f40_l20_X) : Option (f40_l20_X ⊕ f40_l20_Y) := f40_l20_k a0 a1 x.1 x.2 a4 (fun x => some (.inl x)) (fun y => some (.inr (.inl y))) (fun y => some (.inr (.inr y)))
noncomputable def f40_l20 (a0 : Int) (a1 : List Int) (a4 : List Int) (x : f40_l20_X) : Option f40_l20_Y := loopO (f40_l20_g a0 a1 a4) x
noncomputable def f40_l20_nd : Node := { nils := [(11, 0, (.int .u8), .dead), (12, 207, Qt4, Qt5)], sk := f40_l20_sk, outs := f40_l20_outs, Y := f40_l20_Y, L := fun t => f40_l20 ((f40_l20_con t).1) ((f40_l20_con t).2.1) ((f40_l20_con t).2.2) (f40_l20_get t), out := fun t y => f40_l20_out (f40_l20_con t) y, disp := fun t y K => (Sum.elim (fun y => K .ret (f40_l20_o0.fill (f40_l20_w0 (f40_l20_con t) y))) (fun y => K (.exit 2) (f40_l20_o1.fill (f40_l20_w1 (f40_l20_con t) y)))) y }
noncomputable def f40_l39_sk : SkS := ⟨87, [(6, .con (.int .i64)), (0, .ref 704 []), (3, .con (.slc (.int .u8))), (0, .ref 207 []), (6, .ref 2480 []), (0, .con (.int .i64)), (0, .con (.int .u8)), (135, .con (.int .i64)), (0, .con (.int .i64))], [(207, ⟨none, (.slc Qt4), (.own Qt5), none⟩), (704, ⟨none, (.slc (.int .u8)), (.own .ro), none⟩), (2480, ⟨none, (.mp (.int .i64) .bool), (.own (.own .ro)), none⟩)]⟩
noncomputable def f40_l39_o0 : SkS := ⟨241, [(2, .nil), (0, .nil), (0, .con (.int .i64))], []⟩
noncomputable def f40_l39_o1 : SkS := ⟨87, [(6, .con (.int .i64)), (0, .ref 704 []), (3, .con (.slc (.int .u8))), (0, .ref 207 []), (6, .ref 2480 []), (0, .con (.int .i64)), (136, .con (.int .i64)), (0, .con (.int .i64))], [(207, ⟨none, (.slc Qt4), (.own Qt5), none⟩), (704, ⟨none, (.slc (.int .u8)), (.own .ro), none⟩), (2480, ⟨none, (.mp (.int .i64) .bool), (.own (.own .ro)), none⟩)]⟩
noncomputable def f40_l39_outs : List Way := [⟨.ret, [], f40_l39_o0⟩, ⟨(.exit 6), [], f40_l39_o1⟩]
abbrev f40_l39_C := (Int × List Int × Int × Int × Int × List Int)
abbrev f40_l39_X := (Int × List Qv1 × List (Int × Bool))
abbrev f40_l39_Y := (Int) ⊕ ((List Qv1 × List (Int × Bool)))
noncomputable def f40_l39_con (t : f40_l39_sk.T) : f40_l39_C := (t.1.1, t.1.2.1, t.1.2.2.1, t.1.2.2.2.2.1, t.1.2.2.2.2.2.1, t.2.2.1.1)
noncomputable def f40_l39_get (t : f40_l39_sk.T) : f40_l39_X := (t.1.2.2.2.1, t.2.1.1, t.2.2.2.1.1)
noncomputable def f40_l39_put (c : f40_l39_C) (x : f40_l39_X) : f40_l39_sk.T := ((c.1, (c.2.1, (c.2.2.1, (x.1, (c.2.2.2.1, (c.2.2.2.2.1, ())))))), ((x.2.1, ()), ((c.2.2.2.2.2, ()), ((x.2.2, ()), ()))))
theorem f40_l39_pg (t : f40_l39_sk.T) : f40_l39_put (f40_l39_con t) (f40_l39_get t) = t := by kernel_rfl
noncomputable def f40_l39_w0 (c : f40_l39_C) (y : Int) : f40_l39_o0.T := ((y, ()), ())
noncomputable def f40_l39_w1 (c : f40_l39_C) (y : (List Qv1 × List (Int × Bool))) : f40_l39_o1.T := ((c.1, (c.2.1, (c.2.2.1, (c.2.2.2.1, (c.2.2.2.2.1, ()))))), ((y.1, ()), ((c.2.2.2.2.2, ()), ((y.2, ()), ()))))
noncomputable def f40_l39_out (c : f40_l39_C) (y : f40_l39_Y) : OutV f40_l39_outs := (Sum.elim (fun y => (.inl (f40_l39_w0 c y))) (fun y => (.inr (.inl (f40_l39_w1 c y))))) y
noncomputable def f40_l39_k {R : Type} (a0 : Int) (a1 : List Int) (a2 : Int) (a3 : Int) (a4 : Int) (a5 : Int) (a6 : List Qv1) (a7 : List Int) (a8 : List (Int × Bool)) (kin : f40_l39_X → Option R) (k0 : Int → Option R) (k1 : (List Qv1 × List (Int × Bool)) → Option R) : Option R :=
 (cond (a3 != (254 : Int))
 (cond (decide ((IntKind.i64.wrap a3) < (10 : Int)))
  (k0 (3 : Int))
  (cond (decide ((IntKind.i64.wrap a3) ≥ a0))
   (k0 (3 : Int))
   (if (0 : Int) ≤ (IntKind.i64.wrap a3) ∧ (IntKind.i64.wrap a3) < ((List.length a7 : Nat) : Int) then (cond ((List.getD a7 (Int.toNat (IntKind.i64.wrap a3)) (0 : Int)) == (255 : Int))
    (k0 (3 : Int))
    (let v42 : Bool := ((mfind (.int .i64) .bool a8 (IntKind.i64.wrap a3)).getD false)
     (cond v42
     (k0 (10 : Int))
     (let r43 : List (Int × Bool) := (mset (.int .i64) .bool a8 (IntKind.i64.wrap a3) true)
      (if (0 : Int) ≤ a2 ∧ a2 < ((List.length a6 : Nat) : Int) then (if (0 : Int) ≤ a2 ∧ a2 < ((List.length a6 : Nat) : Int) then (if (Int.toNat a2) = (Int.toNat a2) then (if 0 < 1 ∧ (List.length (List.getD a6 (Int.toNat a2) ((0 : Int), (ByteArray.empty, ((0 : Int), (([] : List Int), ()))))).2.2.2.1 + 1) * 8 ≤ most ∧ 0 < 8 then (if (0 : Int) ≤ a3 ∧ a3 < ((List.length a7 : Nat) : Int) then (kin ((List.getD a7 (Int.toNat a3) (0 : Int)), (List.set a6 (Int.toNat a2) ((List.getD a6 (Int.toNat a2) ((0 : Int), (ByteArray.empty, ((0 : Int), (([] : List Int), ()))))).1, ((List.getD a6 (Int.toNat a2) ((0 : Int), (ByteArray.empty, ((0 : Int), (([] : List Int), ()))))).2.1, ((List.getD a6 (Int.toNat a2) ((0 : Int), (ByteArray.empty, ((0 : Int), (([] : List Int), ()))))).2.2.1, (((List.getD a6 (Int.toNat a2) ((0 : Int), (ByteArray.empty, ((0 : Int), (([] : List Int), ()))))).2.2.2.1 ++ [(IntKind.i64.wrap a3)]), (List.getD a6 (Int.toNat a2) ((0 : Int), (ByteArray.empty, ((0 : Int), (([] : List Int), ()))))).2.2.2.2))))), r43)) else none) else none) else none) else none) else none))))) else none)))
 (k1 (a6, a8)))
noncomputable def f40_l39_g (a0 : Int) (a1 : List Int) (a2 : Int) (a4 : Int) (a5 : Int) (a7 : List Int) (x : f40_l39_X) : Option (f40_l39_X ⊕ f40_l39_Y) := f40_l39_k a0 a1 a2 x.1 a4 a5 x.2.1 a7 x.2.2 (fun x => some (.inl x)) (fun y => some (.inr (.inl y))) (fun y => some (.inr (.inr y)))
noncomputable def f40_l39 (a0 : Int) (a1 : List Int) (a2 : Int) (a4 : Int) (a5 : Int) (a7 : List Int) (x : f40_l39_X) : Option f40_l39_Y := loopO (f40_l39_g a0 a1 a2 a4 a5 a7) x
noncomputable def f40_l39_nd : Node := { nils := [], sk := f40_l39_sk, outs := f40_l39_outs, Y := f40_l39_Y, L := fun t => f40_l39 ((f40_l39_con t).1) ((f40_l39_con t).2.1) ((f40_l39_con t).2.2.1) ((f40_l39_con t).2.2.2.1) ((f40_l39_con t).2.2.2.2.1) ((f40_l39_con t).2.2.2.2.2) (f40_l39_get t), out := fun t y => f40_l39_out (f40_l39_con t) y, disp := fun t y K => (Sum.elim (fun y => K .ret (f40_l39_o0.fill (f40_l39_w0 (f40_l39_con t) y))) (fun y => K (.exit 6) (f40_l39_o1.fill (f40_l39_w1 (f40_l39_con t) y)))) y }
noncomputable def f40_l36_sk : SkS := ⟨87, [(6, .con (.int .i64)), (0, .ref 704 []), (3, .con (.slc (.int .u8))), (0, .ref 207 []), (6, .ref 2480 []), (137, .con (.int .i64)), (0, .con (.int .i64))], [(207, ⟨none, (.slc Qt4), (.own Qt5), none⟩), (704, ⟨none, (.slc (.int .u8)), (.own .ro), none⟩), (2480, ⟨none, (.mp (.int .i64) .bool), (.own (.own .ro)), none⟩)]⟩
noncomputable def f40_l36_o0 : SkS := ⟨241, [(2, .nil), (0, .nil), (0, .con (.int .i64))], []⟩
noncomputable def f40_l36_o1 : SkS := ⟨226, [(6, .con (.int .i64)), (0, .ref 704 []), (4, .ref 207 []), (6, .ref 2480 [])], [(207, ⟨none, (.slc Qt4), (.own Qt5), none⟩), (704, ⟨none, (.slc (.int .u8)), (.own .ro), none⟩), (2480, ⟨none, (.mp (.int .i64) .bool), (.own (.own .ro)), none⟩)]⟩
noncomputable def f40_l36_outs : List Way := [⟨.ret, [], f40_l36_o0⟩, ⟨(.exit 4), [], f40_l36_o1⟩]
abbrev f40_l36_C := (Int × List Int × Int × List Int)
abbrev f40_l36_X := (Int × List Qv1 × List (Int × Bool))
abbrev f40_l36_Y := (Int) ⊕ ((List Qv1 × List (Int × Bool)))
noncomputable def f40_l36_con (t : f40_l36_sk.T) : f40_l36_C := (t.1.1, t.1.2.1, t.1.2.2.1, t.2.2.1.1)
noncomputable def f40_l36_get (t : f40_l36_sk.T) : f40_l36_X := (t.1.2.2.2.1, t.2.1.1, t.2.2.2.1.1)
noncomputable def f40_l36_put (c : f40_l36_C) (x : f40_l36_X) : f40_l36_sk.T := ((c.1, (c.2.1, (c.2.2.1, (x.1, ())))), ((x.2.1, ()), ((c.2.2.2, ()), ((x.2.2, ()), ()))))
theorem f40_l36_pg (t : f40_l36_sk.T) : f40_l36_put (f40_l36_con t) (f40_l36_get t) = t := by kernel_rfl
noncomputable def f40_l36_w0 (c : f40_l36_C) (y : Int) : f40_l36_o0.T := ((y, ()), ())
noncomputable def f40_l36_w1 (c : f40_l36_C) (y : (List Qv1 × List (Int × Bool))) : f40_l36_o1.T := ((c.1, ()), ((y.1, ()), ((c.2.2.2, ()), ((y.2, ()), ()))))
noncomputable def f40_l36_out (c : f40_l36_C) (y : f40_l36_Y) : OutV f40_l36_outs := (Sum.elim (fun y => (.inl (f40_l36_w0 c y))) (fun y => (.inr (.inl (f40_l36_w1 c y))))) y
noncomputable def f40_l36_k {R : Type} (a0 : Int) (a1 : List Int) (a2 : Int) (a3 : Int) (a4 : List Qv1) (a5 : List Int) (a6 : List (Int × Bool)) (kin : f40_l36_X → Option R) (k0 : Int → Option R) (k1 : (List Qv1 × List (Int × Bool)) → Option R) : Option R :=
 (cond (decide (a3 < a2))
 (if (0 : Int) ≤ a3 ∧ a3 < ((List.length a4 : Nat) : Int) then (let v40 : Int := (IntKind.i64.wrap ((32 : Int) * (List.getD a4 (Int.toNat a3) ((0 : Int), (ByteArray.empty, ((0 : Int), (([] : List Int), ()))))).1))
  (let v41 : Int := (IntKind.i64.wrap (v40 + (20 : Int)))
  (if (0 : Int) ≤ v41 ∧ v41 < ((List.length a1 : Nat) : Int) then ((f40_l39 a0 a1 a3 a2 a3 a5 ((List.getD a1 (Int.toNat v41) (0 : Int)), a4, a6)).bind fun y44 =>
  ((Sum.elim (fun z45 =>
  (k0 z45))
  (fun z46 =>
  (if (0 : Int) ≤ a3 ∧ a3 < ((List.length z46.1 : Nat) : Int) then (let v47 : Int := (IntKind.i64.wrap ((List.getD z46.1 (Int.toNat a3) ((0 : Int), (ByteArray.empty, ((0 : Int), (([] : List Int), ()))))).2.2.1 + (127 : Int)))
   (let v48 : Int := (IntKind.i64.wrap (Int.tdiv v47 (128 : Int)))
   (if (0 : Int) ≤ a3 ∧ a3 < ((List.length z46.1 : Nat) : Int) then (cond (v48 != ((List.length (List.getD z46.1 (Int.toNat a3) ((0 : Int), (ByteArray.empty, ((0 : Int), (([] : List Int), ()))))).2.2.2.1 : Nat) : Int))
   (k0 (12 : Int))
   (let v49 : Int := (IntKind.i64.wrap (a3 + (1 : Int)))
    (kin (v49, z46.1, z46.2)))) else none))) else none))) y44)) else none))) else none)
 (k1 (a4, a6)))
noncomputable def f40_l36_g (a0 : Int) (a1 : List Int) (a2 : Int) (a5 : List Int) (x : f40_l36_X) : Option (f40_l36_X ⊕ f40_l36_Y) := f40_l36_k a0 a1 a2 x.1 x.2.1 a5 x.2.2 (fun x => some (.inl x)) (fun y => some (.inr (.inl y))) (fun y => some (.inr (.inr y)))
noncomputable def f40_l36 (a0 : Int) (a1 : List Int) (a2 : Int) (a5 : List Int) (x : f40_l36_X) : Option f40_l36_Y := loopO (f40_l36_g a0 a1 a2 a5) x
noncomputable def f40_l36_nd : Node := { nils := [], sk := f40_l36_sk, outs := f40_l36_outs, Y := f40_l36_Y, L := fun t => f40_l36 ((f40_l36_con t).1) ((f40_l36_con t).2.1) ((f40_l36_con t).2.2.1) ((f40_l36_con t).2.2.2) (f40_l36_get t), out := fun t y => f40_l36_out (f40_l36_con t) y, disp := fun t y K => (Sum.elim (fun y => K .ret (f40_l36_o0.fill (f40_l36_w0 (f40_l36_con t) y))) (fun y => K (.exit 4) (f40_l36_o1.fill (f40_l36_w1 (f40_l36_con t) y)))) y }
noncomputable def f40_l53_sk : SkS := ⟨221, [(6, .con (.int .i64)), (0, .ref 704 []), (4, .ref 207 []), (6, .ref 2480 []), (4, .con (.int .i64))], [(207, ⟨none, (.slc Qt4), (.own Qt5), none⟩), (704, ⟨none, (.slc (.int .u8)), (.own .ro), none⟩), (2480, ⟨none, (.mp (.int .i64) .bool), (.own (.own .ro)), none⟩)]⟩
noncomputable def f40_l53_o0 : SkS := ⟨241, [(2, .nil), (0, .nil), (0, .con (.int .i64))], []⟩
noncomputable def f40_l53_o1 : SkS := ⟨233, [(7, .ref 704 []), (4, .ref 207 [])], [(207, ⟨none, (.slc Qt4), (.own Qt5), none⟩), (704, ⟨none, (.slc (.int .u8)), (.own .ro), none⟩)]⟩
noncomputable def f40_l53_outs : List Way := [⟨.ret, [], f40_l53_o0⟩, ⟨(.exit 9), [], f40_l53_o1⟩]
abbrev f40_l53_C := (Int × List Qv1 × List Int × List (Int × Bool))
abbrev f40_l53_X := Int
abbrev f40_l53_Y := (Unit) ⊕ (Unit)
noncomputable def f40_l53_con (t : f40_l53_sk.T) : f40_l53_C := (t.1.1, t.2.1.1, t.2.2.1.1, t.2.2.2.1.1)
noncomputable def f40_l53_get (t : f40_l53_sk.T) : f40_l53_X := t.1.2.1
noncomputable def f40_l53_put (c : f40_l53_C) (x : f40_l53_X) : f40_l53_sk.T := ((c.1, (x, ())), ((c.2.1, ()), ((c.2.2.1, ()), ((c.2.2.2, ()), ()))))
theorem f40_l53_pg (t : f40_l53_sk.T) : f40_l53_put (f40_l53_con t) (f40_l53_get t) = t := by kernel_rfl
noncomputable def f40_l53_w0 (c : f40_l53_C) (y : Unit) : f40_l53_o0.T := (((7 : Int), ()), ())
noncomputable def f40_l53_w1 (c : f40_l53_C) (y : Unit) : f40_l53_o1.T := ((), ((c.2.1, ()), ((c.2.2.1, ()), ())))
noncomputable def f40_l53_out (c : f40_l53_C) (y : f40_l53_Y) : OutV f40_l53_outs := (Sum.elim (fun y => (.inl (f40_l53_w0 c y))) (fun y => (.inr (.inl (f40_l53_w1 c y))))) y
noncomputable def f40_l53_k {R : Type} (a0 : Int) (a1 : Int) (a2 : List Qv1) (a3 : List Int) (a4 : List (Int × Bool)) (kin : f40_l53_X → Option R) (k0 : Unit → Option R) (k1 : Unit → Option R) : Option R :=
 (cond (decide (a1 < a0))
 (let v53 : Bool := ((mfind (.int .i64) .bool a4 a1).getD false)
  (cond (!v53)
  (if (0 : Int) ≤ a1 ∧ a1 < ((List.length a3 : Nat) : Int) then (cond ((List.getD a3 (Int.toNat a1) (0 : Int)) != (255 : Int))
   (k0 ())
   (let v54 : Int := (IntKind.i64.wrap (a1 + (1 : Int)))
    (kin v54))) else none)
  (let v55 : Int := (IntKind.i64.wrap (a1 + (1 : Int)))
   (kin v55))))
 (k1 ()))
noncomputable def f40_l53_g (a0 : Int) (a2 : List Qv1) (a3 : List Int) (a4 : List (Int × Bool)) (x : f40_l53_X) : Option (f40_l53_X ⊕ f40_l53_Y) := f40_l53_k a0 x a2 a3 a4 (fun x => some (.inl x)) (fun y => some (.inr (.inl y))) (fun y => some (.inr (.inr y)))
noncomputable def f40_l53 (a0 : Int) (a2 : List Qv1) (a3 : List Int) (a4 : List (Int × Bool)) (x : f40_l53_X) : Option f40_l53_Y := loopO (f40_l53_g a0 a2 a3 a4) x
noncomputable def f40_l53_nd : Node := { nils := [], sk := f40_l53_sk, outs := f40_l53_outs, Y := f40_l53_Y, L := fun t => f40_l53 ((f40_l53_con t).1) ((f40_l53_con t).2.1) ((f40_l53_con t).2.2.1) ((f40_l53_con t).2.2.2) (f40_l53_get t), out := fun t y => f40_l53_out (f40_l53_con t) y, disp := fun t y K => (Sum.elim (fun y => K .ret (f40_l53_o0.fill (f40_l53_w0 (f40_l53_con t) y))) (fun y => K (.exit 9) (f40_l53_o1.fill (f40_l53_w1 (f40_l53_con t) y)))) y }
noncomputable def f40_fx : Fx := { E := env, T := [(72, f72_sm), (73, f73_sm), (74, f74_sm), (75, f75_sm), (71, f71_sm), (12, f12_sm), (76, f76_sm), (43, f43_sm)], H := [(43, .ro), (105, .ro), (152, (.own Qt5)), (153, (.own Qt5))], O := [], nodes := [((true, 9), f40_l9_nd), ((true, 20), f40_l20_nd), ((true, 39), f40_l39_nd), ((true, 36), f40_l36_nd), ((true, 53), f40_l53_nd)] }
noncomputable def f40_l9_b : Code := (loops f40_code).getD 0 .skip
theorem f40_l9_r (c : f40_l9_C) (x : f40_l9_X) : roundS f40_fx f40_l9_b f40_l9_nd (f40_l9_put c x) = f40_l9_k c.1 c.2.1 x c.2.2.1 c.2.2.2.1 (fun x => some (.inl (f40_l9_put c x))) (fun y => some (.inr (.inl (f40_l9_w0 c y)))) (fun y => some (.inr (.inr (.inl (f40_l9_w1 c y))))) := by kernel_rfl
theorem f40_l9_n {R : Type} (a0 : Int) (a1 : Int) (a2 : Int) (a3 : Qv0) (a4 : List Int) (kin : f40_l9_X → Option R) (k0 : Unit → Option R) (k1 : Unit → Option R) : f40_l9_k a0 a1 a2 a3 a4 kin k0 k1 = (f40_l9_g a0 a1 a3 a4 a2).bind (Sum.elim kin (Sum.elim k0 k1)) := by
  simp only [f40_l9_g, f40_l9_k, cond_bind, ite_bind, bind_bind, some_bind, none_bind, elim_bind, whenS_bind, Sum.elim_inl, Sum.elim_inr]
theorem f40_l9_ok : LoopOk f40_fx f40_l9_b f40_l9_nd := loop_ok f40_l9_con f40_l9_get f40_l9_put f40_l9_pg (fun c => f40_l9_g c.1 c.2.1 c.2.2.1 c.2.2.2.1) f40_l9_out (fun t y => rfl) (by intro R t y K; rcases y with y | y <;> rfl) (fun c x => by
  refine (f40_l9_r c x).trans ((f40_l9_n _ _ _ _ _ _ _ _).trans ?_)
  first
  | rfl
  | congr 1
    funext s
    rcases s with s | s | s <;> rfl) (fun t => rfl)
noncomputable def f40_l20_b : Code := (loops f40_code).getD 1 .skip
theorem f40_l20_r (c : f40_l20_C) (x : f40_l20_X) : roundS f40_fx f40_l20_b f40_l20_nd (f40_l20_put c x) = f40_l20_k c.1 c.2.1 x.1 x.2 c.2.2 (fun x => some (.inl (f40_l20_put c x))) (fun y => some (.inr (.inl (f40_l20_w0 c y)))) (fun y => some (.inr (.inr (.inl (f40_l20_w1 c y))))) := by kernel_rfl
theorem f40_l20_n {R : Type} (a0 : Int) (a1 : List Int) (a2 : Int) (a3 : List Qv1) (a4 : List Int) (kin : f40_l20_X → Option R) (k0 : Int → Option R) (k1 : List Qv1 → Option R) : f40_l20_k a0 a1 a2 a3 a4 kin k0 k1 = (f40_l20_g a0 a1 a4 (a2, a3)).bind (Sum.elim kin (Sum.elim k0 k1)) := by
  simp only [f40_l20_g, f40_l20_k, cond_bind, ite_bind, bind_bind, some_bind, none_bind, elim_bind, whenS_bind, Sum.elim_inl, Sum.elim_inr]
theorem f40_l20_ok : LoopOk f40_fx f40_l20_b f40_l20_nd := loop_ok f40_l20_con f40_l20_get f40_l20_put f40_l20_pg (fun c => f40_l20_g c.1 c.2.1 c.2.2) f40_l20_out (fun t y => rfl) (by intro R t y K; rcases y with y | y <;> rfl) (fun c x => by
  refine (f40_l20_r c x).trans ((f40_l20_n _ _ _ _ _ _ _ _).trans ?_)
  first
  | rfl
  | congr 1
    funext s
    rcases s with s | s | s <;> rfl) (fun t => rfl)
noncomputable def f40_l39_b : Code := (loops f40_code).getD 3 .skip
theorem f40_l39_r (c : f40_l39_C) (x : f40_l39_X) : roundS f40_fx f40_l39_b f40_l39_nd (f40_l39_put c x) = f40_l39_k c.1 c.2.1 c.2.2.1 x.1 c.2.2.2.1 c.2.2.2.2.1 x.2.1 c.2.2.2.2.2 x.2.2 (fun x => some (.inl (f40_l39_put c x))) (fun y => some (.inr (.inl (f40_l39_w0 c y)))) (fun y => some (.inr (.inr (.inl (f40_l39_w1 c y))))) := by kernel_rfl
theorem f40_l39_n {R : Type} (a0 : Int) (a1 : List Int) (a2 : Int) (a3 : Int) (a4 : Int) (a5 : Int) (a6 : List Qv1) (a7 : List Int) (a8 : List (Int × Bool)) (kin : f40_l39_X → Option R) (k0 : Int → Option R) (k1 : (List Qv1 × List (Int × Bool)) → Option R) : f40_l39_k a0 a1 a2 a3 a4 a5 a6 a7 a8 kin k0 k1 = (f40_l39_g a0 a1 a2 a4 a5 a7 (a3, a6, a8)).bind (Sum.elim kin (Sum.elim k0 k1)) := by
  simp only [f40_l39_g, f40_l39_k, cond_bind, ite_bind, bind_bind, some_bind, none_bind, elim_bind, whenS_bind, Sum.elim_inl, Sum.elim_inr]
theorem f40_l39_ok : LoopOk f40_fx f40_l39_b f40_l39_nd := loop_ok f40_l39_con f40_l39_get f40_l39_put f40_l39_pg (fun c => f40_l39_g c.1 c.2.1 c.2.2.1 c.2.2.2.1 c.2.2.2.2.1 c.2.2.2.2.2) f40_l39_out (fun t y => rfl) (by intro R t y K; rcases y with y | y <;> rfl) (fun c x => by
  refine (f40_l39_r c x).trans ((f40_l39_n _ _ _ _ _ _ _ _ _ _ _ _).trans ?_)
  first
  | rfl
  | congr 1
    funext s
    rcases s with s | s | s <;> rfl) (fun t => rfl)
noncomputable def f40_l36_b : Code := (loops f40_code).getD 2 .skip
theorem f40_l36_r (c : f40_l36_C) (x : f40_l36_X) : roundS f40_fx f40_l36_b f40_l36_nd (f40_l36_put c x) = f40_l36_k c.1 c.2.1 c.2.2.1 x.1 x.2.1 c.2.2.2 x.2.2 (fun x => some (.inl (f40_l36_put c x))) (fun y => some (.inr (.inl (f40_l36_w0 c y)))) (fun y => some (.inr (.inr (.inl (f40_l36_w1 c y))))) := by kernel_rfl
theorem f40_l36_n {R : Type} (a0 : Int) (a1 : List Int) (a2 : Int) (a3 : Int) (a4 : List Qv1) (a5 : List Int) (a6 : List (Int × Bool)) (kin : f40_l36_X → Option R) (k0 : Int → Option R) (k1 : (List Qv1 × List (Int × Bool)) → Option R) : f40_l36_k a0 a1 a2 a3 a4 a5 a6 kin k0 k1 = (f40_l36_g a0 a1 a2 a5 (a3, a4, a6)).bind (Sum.elim kin (Sum.elim k0 k1)) := by
  simp only [f40_l36_g, f40_l36_k, cond_bind, ite_bind, bind_bind, some_bind, none_bind, elim_bind, whenS_bind, Sum.elim_inl, Sum.elim_inr]
theorem f40_l36_ok : LoopOk f40_fx f40_l36_b f40_l36_nd := loop_ok f40_l36_con f40_l36_get f40_l36_put f40_l36_pg (fun c => f40_l36_g c.1 c.2.1 c.2.2.1 c.2.2.2) f40_l36_out (fun t y => rfl) (by intro R t y K; rcases y with y | y <;> rfl) (fun c x => by
  refine (f40_l36_r c x).trans ((f40_l36_n _ _ _ _ _ _ _ _ _ _).trans ?_)
  first
  | rfl
  | congr 1
    funext s
    rcases s with s | s | s <;> rfl) (fun t => rfl)
noncomputable def f40_l53_b : Code := (loops f40_code).getD 4 .skip
theorem f40_l53_r (c : f40_l53_C) (x : f40_l53_X) : roundS f40_fx f40_l53_b f40_l53_nd (f40_l53_put c x) = f40_l53_k c.1 x c.2.1 c.2.2.1 c.2.2.2 (fun x => some (.inl (f40_l53_put c x))) (fun y => some (.inr (.inl (f40_l53_w0 c y)))) (fun y => some (.inr (.inr (.inl (f40_l53_w1 c y))))) := by kernel_rfl
theorem f40_l53_n {R : Type} (a0 : Int) (a1 : Int) (a2 : List Qv1) (a3 : List Int) (a4 : List (Int × Bool)) (kin : f40_l53_X → Option R) (k0 : Unit → Option R) (k1 : Unit → Option R) : f40_l53_k a0 a1 a2 a3 a4 kin k0 k1 = (f40_l53_g a0 a2 a3 a4 a1).bind (Sum.elim kin (Sum.elim k0 k1)) := by
  simp only [f40_l53_g, f40_l53_k, cond_bind, ite_bind, bind_bind, some_bind, none_bind, elim_bind, whenS_bind, Sum.elim_inl, Sum.elim_inr]
theorem f40_l53_ok : LoopOk f40_fx f40_l53_b f40_l53_nd := loop_ok f40_l53_con f40_l53_get f40_l53_put f40_l53_pg (fun c => f40_l53_g c.1 c.2.1 c.2.2.1 c.2.2.2) f40_l53_out (fun t y => rfl) (by intro R t y K; rcases y with y | y <;> rfl) (fun c x => by
  refine (f40_l53_r c x).trans ((f40_l53_n _ _ _ _ _ _ _ _).trans ?_)
  first
  | rfl
  | congr 1
    funext s
    rcases s with s | s | s <;> rfl) (fun t => rfl)
noncomputable def f40_k {R : Type} (a0 : Qv0) (k : (List Qv1 × List Int × Int × Unit) × (Unit) → Option R) : Option R :=
 ((f72 a0).bind fun r0 =>
 (cond (r0.1.1 != (0 : Int))
 (k (([], ([], (r0.1.1, ()))), ()))
 (cond (decide (((List.length a0.2.2.1 : Nat) : Int) ≤ (10 : Int)))
  (k (([], ([], ((13 : Int), ()))), ()))
  (if (0 : Int) ≤ (0 : Int) ∧ (0 : Int) < ((List.length a0.2.2.1 : Nat) : Int) then (if (0 : Int) ≤ (1 : Int) ∧ (1 : Int) < ((List.length a0.2.2.1 : Nat) : Int) then ((f73 [(List.getD a0.2.2.1 0 ([] : List Int)), (List.getD a0.2.2.1 1 ([] : List Int))]).bind fun r1 =>
   ((f40_l9 ((List.length a0.2.2.1 : Nat) : Int) ((List.length r1.1.1 : Nat) : Int) a0 r1.1.1 (0 : Int)).bind fun y14 =>
   ((Sum.elim (fun z15 =>
   (k (([], ([], ((3 : Int), ()))), ())))
   (fun z16 =>
   (if (0 : Int) ≤ (2 : Int) ∧ (2 : Int) ≤ (10 : Int) ∧ (10 : Int) ≤ ((List.length a0.2.2.1 : Nat) : Int) then ((f73 (List.take 8 (List.drop 2 a0.2.2.1))).bind fun r17 =>
    ((f40_l20 ((List.length a0.2.2.1 : Nat) : Int) r17.1.1 r1.1.1 ((0 : Int), [])).bind fun y37 =>
    ((Sum.elim (fun z38 =>
    (k (([], ([], (z38, ()))), ())))
    (fun z39 =>
    ((f40_l36 ((List.length a0.2.2.1 : Nat) : Int) r17.1.1 ((List.length z39 : Nat) : Int) r1.1.1 ((0 : Int), z39, ([] : List (Int × Bool)))).bind fun y50 =>
     ((Sum.elim (fun z51 =>
     (k (([], ([], (z51, ()))), ())))
     (fun z52 =>
     ((f40_l53 ((List.length a0.2.2.1 : Nat) : Int) z52.1 r1.1.1 z52.2 (10 : Int)).bind fun y56 =>
      ((Sum.elim (fun z57 =>
      (k (([], ([], ((7 : Int), ()))), ())))
      (fun z58 =>
      (k ((z52.1, (r1.1.1, ((0 : Int), ()))), ())))) y56)))) y50)))) y37))) else none))) y14))) else none) else none))))
noncomputable def f40 (a0 : Qv0) : Option ((List Qv1 × List Int × Int × Unit) × (Unit)) := f40_k a0 some
noncomputable def f40_sm : Sm := { ps := [.ro Qt2], rs := [((.slc Qt4), .ro), ((.slc (.int .u8)), (.own .ro)), ((.int .i64), .ro)], F := fun x => f40 x.1 }
theorem f40_m (x : ArgT [.ro Qt2]) : codeS f40_fx f40_code (start [.ro Qt2] [] x 246) (finK env [.tmp 2, .tmp 3, .tmp 4] [.ro Qt2] [((.slc Qt4), .ro), ((.slc (.int .u8)), (.own .ro)), ((.int .i64), .ro)]) = f40_k x.1 (fun r => some (r, [])) := by kernel_rfl
theorem f40_n {R : Type} (a0 : Qv0) (k : (List Qv1 × List Int × Int × Unit) × (Unit) → Option R) : f40_k a0 k = (f40 a0).bind k := by
  simp only [f40, f40_k, cond_bind, ite_bind, bind_bind, some_bind, none_bind, elim_bind, whenS_bind]
theorem f40_ok : SmOk Try.prog 40 f40_sm :=
  sum_of (c := f40_fx) (fn := Try.f40) (code := f40_code) (sm := f40_sm) mixed (env_ok env_envB) (TabsOk.all ⟨f72_c, f73_c, f74_c, f75_c, f71_c, f12_c, f76_c, f43_c, trivial⟩) Try.func40 (by kernel_rfl)
   ((LoopsOk.of (l := [f40_l9_b, f40_l20_b, f40_l36_b, f40_l39_b, f40_l53_b]) (by kernel_rfl) ⟨node_is (by kernel_rfl) f40_l9_ok, node_is (by kernel_rfl) f40_l20_ok, node_is (by kernel_rfl) f40_l36_ok, node_is (by kernel_rfl) f40_l39_ok, node_is (by kernel_rfl) f40_l53_ok, trivial⟩))
   (no_tails (by kernel_rfl)) rfl
   (fun ks x hl => by
    have hk : ks = [] := List.length_eq_zero_iff.1 hl
    subst hk
    exact (f40_m x).trans (f40_n _ _))
theorem f40_c : CalOk Try.prog 40 f40_sm := .inl ⟨f40_ok, ⟨Try.f40, Try.func40, by kernel_rfl, by kernel_rfl⟩⟩
noncomputable def f41_code : Code := (Try.f41.body).getD .skip
noncomputable def f41_l3_sk : SkS := ⟨36, [(1, .con (.slc (.int .u8))), (0, .con (.int .i64)), (0, .con (.slc (.int .u8))), (4, .ptr 128 []), (0, .ptr 144 []), (8, .con (.slc (.slc (.int .u8)))), (0, .con (.int .i64)), (0, .con (.int .i64))], [(128, ⟨some 24, Qt2, Qt3, none⟩), (144, ⟨some 24, Qt2, Qt3, none⟩)]⟩
noncomputable def f41_l3_o0 : SkS := ⟨47, [(8, .ptr 128 []), (0, .ptr 144 [])], [(128, ⟨some 24, Qt2, Qt3, none⟩), (144, ⟨some 24, Qt2, Qt3, none⟩)]⟩
noncomputable def f41_l3_outs : List Way := [⟨(.exit 0), [], f41_l3_o0⟩]
abbrev f41_l3_C := (List Int × Int × List Int × List (List Int) × Int × Qv0 × (Option Nat) × (Option Nat))
abbrev f41_l3_X := (Int × Qv0)
abbrev f41_l3_Y := (Qv0)
noncomputable def f41_l3_con (t : f41_l3_sk.T) : f41_l3_C := (t.1.1, t.1.2.1, t.1.2.2.1, t.1.2.2.2.1, t.1.2.2.2.2.1, t.2.1.1, t.2.1.2, t.2.2.1.2)
noncomputable def f41_l3_get (t : f41_l3_sk.T) : f41_l3_X := (t.1.2.2.2.2.2.1, t.2.2.1.1)
noncomputable def f41_l3_put (c : f41_l3_C) (x : f41_l3_X) : f41_l3_sk.T := ((c.1, (c.2.1, (c.2.2.1, (c.2.2.2.1, (c.2.2.2.2.1, (x.1, ())))))), ((c.2.2.2.2.2.1, c.2.2.2.2.2.2.1), ((x.2, c.2.2.2.2.2.2.2), ())))
theorem f41_l3_pg (t : f41_l3_sk.T) : f41_l3_put (f41_l3_con t) (f41_l3_get t) = t := by kernel_rfl
noncomputable def f41_l3_w0 (c : f41_l3_C) (y : Qv0) : f41_l3_o0.T := ((), ((c.2.2.2.2.2.1, c.2.2.2.2.2.2.1), ((y, c.2.2.2.2.2.2.2), ())))
noncomputable def f41_l3_out (c : f41_l3_C) (y : f41_l3_Y) : OutV f41_l3_outs := (fun y => (.inl (f41_l3_w0 c y))) y
noncomputable def f41_l3_k {R : Type} (a0 : List Int) (a1 : Int) (a2 : List Int) (a3 : List (List Int)) (a4 : Int) (a5 : Int) (a6 : Qv0) (a7 : Qv0) (kin : f41_l3_X → Option R) (k0 : Qv0 → Option R) : Option R :=
 (cond (decide (a5 < a4))
 (if (0 : Int) ≤ a5 ∧ a5 < ((List.length a3 : Nat) : Int) then ((f71 (List.getD a3 (Int.toNat a5) ([] : List Int))).bind fun r0 =>
  (cond (decide (a5 < (2 : Int)))
  (let v1 : Int := (IntKind.i64.wrap ((128 : Int) * a5))
   (if (0 : Int) ≤ v1 ∧ v1 ≤ ((List.length a0 : Nat) : Int) ∧ ((List.length a0 : Nat) : Int) ≤ ((List.length a0 : Nat) : Int) then (if 0 < List.length (List.take ((Int.toNat ((List.length a0 : Nat) : Int)) - (Int.toNat v1)) (List.drop (Int.toNat v1) a0)) ∧ 0 < (List.length r0.1.1) then (let v2 : Nat := min (List.length (List.take ((Int.toNat ((List.length a0 : Nat) : Int)) - (Int.toNat v1)) (List.drop (Int.toNat v1) a0))) (List.length r0.1.1)
   (if (List.length a7.2.2.1 + 1) * 24 ≤ most ∧ 0 < 24 ∧ 0 < 1 then (let r3 : List (List Int) := (a7.2.2.1 ++ [(spl r0.1.1 0 v2 (List.take ((Int.toNat ((List.length a0 : Nat) : Int)) - (Int.toNat v1)) (List.drop (Int.toNat v1) a0)))])
   (let v4 : Int := (IntKind.i64.wrap (a5 + (1 : Int)))
   (kin (v4, (a7.1, (a7.2.1, (r3, a7.2.2.2))))))) else none)) else none) else none))
  (let v5 : Int := (IntKind.i64.wrap (Int.tdiv a1 (4 : Int)))
   (let v6 : Int := (IntKind.i64.wrap ((2 : Int) + v5))
   (cond (a5 == v6)
   (let v7 : Int := (IntKind.i64.wrap ((32 : Int) * (Int.tmod a1 (4 : Int))))
    (if (0 : Int) ≤ v7 ∧ v7 ≤ ((List.length r0.1.1 : Nat) : Int) ∧ ((List.length r0.1.1 : Nat) : Int) ≤ ((List.length r0.1.1 : Nat) : Int) then (if 0 < List.length a2 ∧ 0 < ((Int.toNat ((List.length r0.1.1 : Nat) : Int)) - (Int.toNat v7)) then (let v8 : Nat := min (List.length a2) ((Int.toNat ((List.length r0.1.1 : Nat) : Int)) - (Int.toNat v7))
    (if (List.length a7.2.2.1 + 1) * 24 ≤ most ∧ 0 < 24 ∧ 0 < 1 then (let r9 : List (List Int) := (a7.2.2.1 ++ [(spl r0.1.1 (Int.toNat v7) v8 a2)])
    (let v10 : Int := (IntKind.i64.wrap (a5 + (1 : Int)))
    (kin (v10, (a7.1, (a7.2.1, (r9, a7.2.2.2))))))) else none)) else none) else none))
   (if (List.length a7.2.2.1 + 1) * 24 ≤ most ∧ 0 < 24 ∧ 0 < 1 then (let r11 : List (List Int) := (a7.2.2.1 ++ [r0.1.1])
    (let v12 : Int := (IntKind.i64.wrap (a5 + (1 : Int)))
    (kin (v12, (a7.1, (a7.2.1, (r11, a7.2.2.2))))))) else none)))))) else none)
 (k0 a7))
noncomputable def f41_l3_g (a0 : List Int) (a1 : Int) (a2 : List Int) (a3 : List (List Int)) (a4 : Int) (a6 : Qv0) (x : f41_l3_X) : Option (f41_l3_X ⊕ f41_l3_Y) := f41_l3_k a0 a1 a2 a3 a4 x.1 a6 x.2 (fun x => some (.inl x)) (fun y => some (.inr y))
noncomputable def f41_l3 (a0 : List Int) (a1 : Int) (a2 : List Int) (a3 : List (List Int)) (a4 : Int) (a6 : Qv0) (x : f41_l3_X) : Option f41_l3_Y := loopO (f41_l3_g a0 a1 a2 a3 a4 a6) x
noncomputable def f41_l3_nd : Node := { nils := [], sk := f41_l3_sk, outs := f41_l3_outs, Y := f41_l3_Y, L := fun t => f41_l3 ((f41_l3_con t).1) ((f41_l3_con t).2.1) ((f41_l3_con t).2.2.1) ((f41_l3_con t).2.2.2.1) ((f41_l3_con t).2.2.2.2.1) ((f41_l3_con t).2.2.2.2.2.1) (f41_l3_get t), out := fun t y => f41_l3_out (f41_l3_con t) y, disp := fun t y K => (fun y => K (.exit 0) (f41_l3_o0.fill (f41_l3_w0 (f41_l3_con t) y))) y }
noncomputable def f41_fx : Fx := { E := env, T := [(71, f71_sm)], H := [(8, Qt3), (9, Qt3), (52, (.own (.own .ro))), (53, (.own (.own .ro)))], O := [], nodes := [((true, 3), f41_l3_nd)] }
noncomputable def f41_l3_b : Code := (loops f41_code).getD 0 .skip
theorem f41_l3_r (c : f41_l3_C) (x : f41_l3_X) : roundS f41_fx f41_l3_b f41_l3_nd (f41_l3_put c x) = f41_l3_k c.1 c.2.1 c.2.2.1 c.2.2.2.1 c.2.2.2.2.1 x.1 c.2.2.2.2.2.1 x.2 (fun x => some (.inl (f41_l3_put c x))) (fun y => some (.inr (.inl (f41_l3_w0 c y)))) := by kernel_rfl
theorem f41_l3_n {R : Type} (a0 : List Int) (a1 : Int) (a2 : List Int) (a3 : List (List Int)) (a4 : Int) (a5 : Int) (a6 : Qv0) (a7 : Qv0) (kin : f41_l3_X → Option R) (k0 : Qv0 → Option R) : f41_l3_k a0 a1 a2 a3 a4 a5 a6 a7 kin k0 = (f41_l3_g a0 a1 a2 a3 a4 a6 (a5, a7)).bind (Sum.elim kin k0) := by
  simp only [f41_l3_g, f41_l3_k, cond_bind, ite_bind, bind_bind, some_bind, none_bind, elim_bind, whenS_bind, Sum.elim_inl, Sum.elim_inr]
theorem f41_l3_ok : LoopOk f41_fx f41_l3_b f41_l3_nd := loop_ok f41_l3_con f41_l3_get f41_l3_put f41_l3_pg (fun c => f41_l3_g c.1 c.2.1 c.2.2.1 c.2.2.2.1 c.2.2.2.2.1 c.2.2.2.2.2.1) f41_l3_out (fun t y => rfl) (fun t y K => rfl) (fun c x => by
  refine (f41_l3_r c x).trans ((f41_l3_n _ _ _ _ _ _ _ _ _ _).trans ?_)
  first
  | rfl
  | congr 1
    funext s
    rcases s with s | s <;> rfl) (fun t => rfl)
noncomputable def f41_k {R : Type} (a0 : Qv0) (a1 : List Int) (a2 : Int) (a3 : List Int) (k : (Qv0 × Unit) × (Unit) → Option R) : Option R :=
 ((f41_l3 a1 a2 a3 a0.2.2.1 ((List.length a0.2.2.1 : Nat) : Int) ((0 : Int), ((0 : Int), (([] : List (List Int)), ()))) ((0 : Int), (a0.1, (a0.2.1, ([], ()))))).bind fun y13 =>
 (k ((y13, ()), ())))
noncomputable def f41 (a0 : Qv0) (a1 : List Int) (a2 : Int) (a3 : List Int) : Option ((Qv0 × Unit) × (Unit)) := f41_k a0 a1 a2 a3 some
noncomputable def f41_sm : Sm := { ps := [.ro Qt2, .ro (.slc (.int .u8)), .ro (.int .i64), .ro (.slc (.int .u8))], rs := [(Qt2, Qt3)], F := fun x => f41 x.1 x.2.1 x.2.2.1 x.2.2.2.1 }
theorem f41_m (x : ArgT [.ro Qt2, .ro (.slc (.int .u8)), .ro (.int .i64), .ro (.slc (.int .u8))]) : codeS f41_fx f41_code (start [.ro Qt2, .ro (.slc (.int .u8)), .ro (.int .i64), .ro (.slc (.int .u8))] [] x 57) (finK env [.cell 8 24] [.ro Qt2, .ro (.slc (.int .u8)), .ro (.int .i64), .ro (.slc (.int .u8))] [(Qt2, Qt3)]) = f41_k x.1 x.2.1 x.2.2.1 x.2.2.2.1 (fun r => some (r, [])) := by kernel_rfl
theorem f41_n {R : Type} (a0 : Qv0) (a1 : List Int) (a2 : Int) (a3 : List Int) (k : (Qv0 × Unit) × (Unit) → Option R) : f41_k a0 a1 a2 a3 k = (f41 a0 a1 a2 a3).bind k := by
  simp only [f41, f41_k, cond_bind, ite_bind, bind_bind, some_bind, none_bind, elim_bind, whenS_bind]
theorem f41_ok : SmOk Try.prog 41 f41_sm :=
  sum_of (c := f41_fx) (fn := Try.f41) (code := f41_code) (sm := f41_sm) mixed (env_ok env_envB) (TabsOk.all ⟨f71_c, trivial⟩) Try.func41 (by kernel_rfl)
   ((LoopsOk.of (l := [f41_l3_b]) (by kernel_rfl) ⟨node_is (by kernel_rfl) f41_l3_ok, trivial⟩))
   (no_tails (by kernel_rfl)) rfl
   (fun ks x hl => by
    have hk : ks = [] := List.length_eq_zero_iff.1 hl
    subst hk
    exact (f41_m x).trans (f41_n _ _ _ _ _))
theorem f41_c : CalOk Try.prog 41 f41_sm := .inl ⟨f41_ok, ⟨Try.f41, Try.func41, by kernel_rfl, by kernel_rfl⟩⟩
noncomputable def f15_code : Code := (Try.f15.body).getD .skip
noncomputable def f15_l9_sk : SkS := ⟨15, [(2, .ptr 32 []), (1, .ptr 64 []), (2, .ref 240 []), (2, .ptr 160 []), (23, .con (.slc (.int .i64))), (0, .con (.int .i64)), (0, .con (.int .i64))], [(32, ⟨some 24, Qt2, .ro, none⟩), (64, ⟨some 24, Qt2, Qt3, none⟩), (160, ⟨some 74, Qt4, .ro, none⟩), (240, ⟨none, (.slc (.int .u8)), (.own .ro), none⟩)]⟩
noncomputable def f15_l9_o0 : SkS := ⟨41, [(2, .ptr 32 []), (1, .ptr 64 []), (2, .ref 240 []), (2, .ptr 160 [])], [(32, ⟨some 24, Qt2, .ro, none⟩), (64, ⟨some 24, Qt2, Qt3, none⟩), (160, ⟨some 74, Qt4, .ro, none⟩), (240, ⟨none, (.slc (.int .u8)), (.own .ro), none⟩)]⟩
noncomputable def f15_l9_outs : List Way := [⟨(.exit 2), [], f15_l9_o0⟩]
abbrev f15_l9_C := (List Int × Int × Qv0 × Qv0 × Qv1 × (Option Nat) × (Option Nat) × (Option Nat))
abbrev f15_l9_X := (Int × List Int)
abbrev f15_l9_Y := (List Int)
noncomputable def f15_l9_con (t : f15_l9_sk.T) : f15_l9_C := (t.1.1, t.1.2.1, t.2.1.1, t.2.2.1.1, t.2.2.2.1.1, t.2.1.2, t.2.2.1.2, t.2.2.2.1.2)
noncomputable def f15_l9_get (t : f15_l9_sk.T) : f15_l9_X := (t.1.2.2.1, t.2.2.2.2.1.1)
noncomputable def f15_l9_put (c : f15_l9_C) (x : f15_l9_X) : f15_l9_sk.T := ((c.1, (c.2.1, (x.1, ()))), ((c.2.2.1, c.2.2.2.2.2.1), ((c.2.2.2.1, c.2.2.2.2.2.2.1), ((c.2.2.2.2.1, c.2.2.2.2.2.2.2), ((x.2, ()), ())))))
theorem f15_l9_pg (t : f15_l9_sk.T) : f15_l9_put (f15_l9_con t) (f15_l9_get t) = t := by kernel_rfl
noncomputable def f15_l9_w0 (c : f15_l9_C) (y : List Int) : f15_l9_o0.T := ((), ((c.2.2.1, c.2.2.2.2.2.1), ((c.2.2.2.1, c.2.2.2.2.2.2.1), ((c.2.2.2.2.1, c.2.2.2.2.2.2.2), ((y, ()), ())))))
noncomputable def f15_l9_out (c : f15_l9_C) (y : f15_l9_Y) : OutV f15_l9_outs := (fun y => (.inl (f15_l9_w0 c y))) y
noncomputable def f15_l9_k {R : Type} (a0 : List Int) (a1 : Int) (a2 : Int) (a3 : Qv0) (a4 : Qv0) (a5 : Qv1) (a6 : List Int) (kin : f15_l9_X → Option R) (k0 : List Int → Option R) : Option R :=
 (cond (decide (a2 < a1))
 (if (0 : Int) ≤ a2 ∧ a2 < ((List.length a0 : Nat) : Int) then (if (0 : Int) ≤ (List.getD a0 (Int.toNat a2) (0 : Int)) ∧ (List.getD a0 (Int.toNat a2) (0 : Int)) < ((List.length a6 : Nat) : Int) then (let v1 : Int := (IntKind.i64.wrap (a2 + (1 : Int)))
  (kin (v1, (List.set a6 (Int.toNat (List.getD a0 (Int.toNat a2) (0 : Int))) (255 : Int))))) else none) else none)
 (k0 a6))
noncomputable def f15_l9_g (a0 : List Int) (a1 : Int) (a3 : Qv0) (a4 : Qv0) (a5 : Qv1) (x : f15_l9_X) : Option (f15_l9_X ⊕ f15_l9_Y) := f15_l9_k a0 a1 x.1 a3 a4 a5 x.2 (fun x => some (.inl x)) (fun y => some (.inr y))
noncomputable def f15_l9 (a0 : List Int) (a1 : Int) (a3 : Qv0) (a4 : Qv0) (a5 : Qv1) (x : f15_l9_X) : Option f15_l9_Y := loopO (f15_l9_g a0 a1 a3 a4 a5) x
noncomputable def f15_l9_nd : Node := { nils := [], sk := f15_l9_sk, outs := f15_l9_outs, Y := f15_l9_Y, L := fun t => f15_l9 ((f15_l9_con t).1) ((f15_l9_con t).2.1) ((f15_l9_con t).2.2.1) ((f15_l9_con t).2.2.2.1) ((f15_l9_con t).2.2.2.2.1) (f15_l9_get t), out := fun t y => f15_l9_out (f15_l9_con t) y, disp := fun t y K => (fun y => K (.exit 2) (f15_l9_o0.fill (f15_l9_w0 (f15_l9_con t) y))) y }
noncomputable def f15_l5_sk : SkS := ⟨26, [(1, .con .str), (0, .ptr 32 []), (1, .ptr 64 []), (2, .ref 240 []), (15, .con (.slc Qt4)), (0, .con (.int .i64)), (0, .con (.int .i64))], [(32, ⟨some 24, Qt2, .ro, none⟩), (64, ⟨some 24, Qt2, Qt3, none⟩), (240, ⟨none, (.slc (.int .u8)), (.own .ro), none⟩)]⟩
noncomputable def f15_l5_o0 : SkS := ⟨46, [(4, .ptr 64 []), (0, .con (.int .i64))], [(64, ⟨some 24, Qt2, Qt3, none⟩)]⟩
noncomputable def f15_l5_o1 : SkS := ⟨47, [(4, .ptr 64 [])], [(64, ⟨some 24, Qt2, Qt3, none⟩)]⟩
noncomputable def f15_l5_outs : List Way := [⟨.ret, [], f15_l5_o0⟩, ⟨(.exit 0), [], f15_l5_o1⟩]
abbrev f15_l5_C := (ByteArray × List Qv1 × Int × Qv0 × Qv0 × List Int × (Option Nat) × (Option Nat))
abbrev f15_l5_X := Int
abbrev f15_l5_Y := (Qv0) ⊕ (Unit)
noncomputable def f15_l5_con (t : f15_l5_sk.T) : f15_l5_C := (t.1.1, t.1.2.1, t.1.2.2.1, t.2.1.1, t.2.2.1.1, t.2.2.2.1.1, t.2.1.2, t.2.2.1.2)
noncomputable def f15_l5_get (t : f15_l5_sk.T) : f15_l5_X := t.1.2.2.2.1
noncomputable def f15_l5_put (c : f15_l5_C) (x : f15_l5_X) : f15_l5_sk.T := ((c.1, (c.2.1, (c.2.2.1, (x, ())))), ((c.2.2.2.1, c.2.2.2.2.2.2.1), ((c.2.2.2.2.1, c.2.2.2.2.2.2.2), ((c.2.2.2.2.2.1, ()), ()))))
theorem f15_l5_pg (t : f15_l5_sk.T) : f15_l5_put (f15_l5_con t) (f15_l5_get t) = t := by kernel_rfl
noncomputable def f15_l5_w0 (c : f15_l5_C) (y : Qv0) : f15_l5_o0.T := (((0 : Int), ()), ((y, c.2.2.2.2.2.2.2), ()))
noncomputable def f15_l5_w1 (c : f15_l5_C) (y : Unit) : f15_l5_o1.T := ((), ((c.2.2.2.2.1, c.2.2.2.2.2.2.2), ()))
noncomputable def f15_l5_out (c : f15_l5_C) (y : f15_l5_Y) : OutV f15_l5_outs := (Sum.elim (fun y => (.inl (f15_l5_w0 c y))) (fun y => (.inr (.inl (f15_l5_w1 c y))))) y
noncomputable def f15_l5_k {R : Type} (a0 : ByteArray) (a1 : List Qv1) (a2 : Int) (a3 : Int) (a4 : Qv0) (a5 : Qv0) (a6 : List Int) (kin : f15_l5_X → Option R) (k0 : Qv0 → Option R) (k1 : Unit → Option R) : Option R :=
 (cond (decide (a3 < a2))
 (if (0 : Int) ≤ a3 ∧ a3 < ((List.length a1 : Nat) : Int) then (cond (strEq (List.getD a1 (Int.toNat a3) ((0 : Int), (ByteArray.empty, ((0 : Int), (([] : List Int), ()))))).2.1 a0)
  ((f15_l9 (List.getD a1 (Int.toNat a3) ((0 : Int), (ByteArray.empty, ((0 : Int), (([] : List Int), ()))))).2.2.2.1 ((List.length (List.getD a1 (Int.toNat a3) ((0 : Int), (ByteArray.empty, ((0 : Int), (([] : List Int), ()))))).2.2.2.1 : Nat) : Int) a4 a5 (List.getD a1 (Int.toNat a3) ((0 : Int), (ByteArray.empty, ((0 : Int), (([] : List Int), ()))))) ((0 : Int), a6)).bind fun y2 =>
   ((f41 a4 y2 (List.getD a1 (Int.toNat a3) ((0 : Int), (ByteArray.empty, ((0 : Int), (([] : List Int), ()))))).1 (List.replicate 32 (0 : Int))).bind fun r3 =>
   (k0 r3.1.1)))
  (let v4 : Int := (IntKind.i64.wrap (a3 + (1 : Int)))
   (kin v4))) else none)
 (k1 ()))
noncomputable def f15_l5_g (a0 : ByteArray) (a1 : List Qv1) (a2 : Int) (a4 : Qv0) (a5 : Qv0) (a6 : List Int) (x : f15_l5_X) : Option (f15_l5_X ⊕ f15_l5_Y) := f15_l5_k a0 a1 a2 x a4 a5 a6 (fun x => some (.inl x)) (fun y => some (.inr (.inl y))) (fun y => some (.inr (.inr y)))
noncomputable def f15_l5 (a0 : ByteArray) (a1 : List Qv1) (a2 : Int) (a4 : Qv0) (a5 : Qv0) (a6 : List Int) (x : f15_l5_X) : Option f15_l5_Y := loopO (f15_l5_g a0 a1 a2 a4 a5 a6) x
noncomputable def f15_l5_nd : Node := { nils := [], sk := f15_l5_sk, outs := f15_l5_outs, Y := f15_l5_Y, L := fun t => f15_l5 ((f15_l5_con t).1) ((f15_l5_con t).2.1) ((f15_l5_con t).2.2.1) ((f15_l5_con t).2.2.2.1) ((f15_l5_con t).2.2.2.2.1) ((f15_l5_con t).2.2.2.2.2.1) (f15_l5_get t), out := fun t y => f15_l5_out (f15_l5_con t) y, disp := fun t y K => (Sum.elim (fun y => K .ret (f15_l5_o0.fill (f15_l5_w0 (f15_l5_con t) y))) (fun y => K (.exit 0) (f15_l5_o1.fill (f15_l5_w1 (f15_l5_con t) y)))) y }
noncomputable def f15_fx : Fx := { E := env, T := [(40, f40_sm), (41, f41_sm)], H := [(4, Qt3)], O := [], nodes := [((true, 9), f15_l9_nd), ((true, 5), f15_l5_nd)] }
noncomputable def f15_l9_b : Code := (loops f15_code).getD 1 .skip
theorem f15_l9_r (c : f15_l9_C) (x : f15_l9_X) : roundS f15_fx f15_l9_b f15_l9_nd (f15_l9_put c x) = f15_l9_k c.1 c.2.1 x.1 c.2.2.1 c.2.2.2.1 c.2.2.2.2.1 x.2 (fun x => some (.inl (f15_l9_put c x))) (fun y => some (.inr (.inl (f15_l9_w0 c y)))) := by kernel_rfl
theorem f15_l9_n {R : Type} (a0 : List Int) (a1 : Int) (a2 : Int) (a3 : Qv0) (a4 : Qv0) (a5 : Qv1) (a6 : List Int) (kin : f15_l9_X → Option R) (k0 : List Int → Option R) : f15_l9_k a0 a1 a2 a3 a4 a5 a6 kin k0 = (f15_l9_g a0 a1 a3 a4 a5 (a2, a6)).bind (Sum.elim kin k0) := by
  simp only [f15_l9_g, f15_l9_k, cond_bind, ite_bind, bind_bind, some_bind, none_bind, elim_bind, whenS_bind, Sum.elim_inl, Sum.elim_inr]
theorem f15_l9_ok : LoopOk f15_fx f15_l9_b f15_l9_nd := loop_ok f15_l9_con f15_l9_get f15_l9_put f15_l9_pg (fun c => f15_l9_g c.1 c.2.1 c.2.2.1 c.2.2.2.1 c.2.2.2.2.1) f15_l9_out (fun t y => rfl) (fun t y K => rfl) (fun c x => by
  refine (f15_l9_r c x).trans ((f15_l9_n _ _ _ _ _ _ _ _ _).trans ?_)
  first
  | rfl
  | congr 1
    funext s
    rcases s with s | s <;> rfl) (fun t => rfl)
noncomputable def f15_l5_b : Code := (loops f15_code).getD 0 .skip
theorem f15_l5_r (c : f15_l5_C) (x : f15_l5_X) : roundS f15_fx f15_l5_b f15_l5_nd (f15_l5_put c x) = f15_l5_k c.1 c.2.1 c.2.2.1 x c.2.2.2.1 c.2.2.2.2.1 c.2.2.2.2.2.1 (fun x => some (.inl (f15_l5_put c x))) (fun y => some (.inr (.inl (f15_l5_w0 c y)))) (fun y => some (.inr (.inr (.inl (f15_l5_w1 c y))))) := by kernel_rfl
theorem f15_l5_n {R : Type} (a0 : ByteArray) (a1 : List Qv1) (a2 : Int) (a3 : Int) (a4 : Qv0) (a5 : Qv0) (a6 : List Int) (kin : f15_l5_X → Option R) (k0 : Qv0 → Option R) (k1 : Unit → Option R) : f15_l5_k a0 a1 a2 a3 a4 a5 a6 kin k0 k1 = (f15_l5_g a0 a1 a2 a4 a5 a6 a3).bind (Sum.elim kin (Sum.elim k0 k1)) := by
  simp only [f15_l5_g, f15_l5_k, cond_bind, ite_bind, bind_bind, some_bind, none_bind, elim_bind, whenS_bind, Sum.elim_inl, Sum.elim_inr]
theorem f15_l5_ok : LoopOk f15_fx f15_l5_b f15_l5_nd := loop_ok f15_l5_con f15_l5_get f15_l5_put f15_l5_pg (fun c => f15_l5_g c.1 c.2.1 c.2.2.1 c.2.2.2.1 c.2.2.2.2.1 c.2.2.2.2.2.1) f15_l5_out (fun t y => rfl) (by intro R t y K; rcases y with y | y <;> rfl) (fun c x => by
  refine (f15_l5_r c x).trans ((f15_l5_n _ _ _ _ _ _ _ _ _ _).trans ?_)
  first
  | rfl
  | congr 1
    funext s
    rcases s with s | s | s <;> rfl) (fun t => rfl)
noncomputable def f15_k {R : Type} (a0 : Qv0) (a1 : ByteArray) (k : (Qv0 × Int × Unit) × (Unit) → Option R) : Option R :=
 ((f40 a0).bind fun r0 =>
 (cond (r0.1.2.2.1 != (0 : Int))
 (k ((((0 : Int), ((0 : Int), ([], ()))), (r0.1.2.2.1, ())), ()))
 ((f15_l5 a1 r0.1.1 ((List.length r0.1.1 : Nat) : Int) a0 ((0 : Int), ((0 : Int), (([] : List (List Int)), ()))) r0.1.2.1 (0 : Int)).bind fun y5 =>
  ((Sum.elim (fun z6 =>
  (k ((z6, ((0 : Int), ())), ())))
  (fun z7 =>
  (k ((((0 : Int), ((0 : Int), ([], ()))), ((4 : Int), ())), ())))) y5))))
noncomputable def f15 (a0 : Qv0) (a1 : ByteArray) : Option ((Qv0 × Int × Unit) × (Unit)) := f15_k a0 a1 some
noncomputable def f15_sm : Sm := { ps := [.ro Qt2, .ro .str], rs := [(Qt2, Qt3), ((.int .i64), .ro)], F := fun x => f15 x.1 x.2.1 }
theorem f15_m (x : ArgT [.ro Qt2, .ro .str]) : codeS f15_fx f15_code (start [.ro Qt2, .ro .str] [] x 52) (finK env [.cell 4 24, .tmp 5] [.ro Qt2, .ro .str] [(Qt2, Qt3), ((.int .i64), .ro)]) = f15_k x.1 x.2.1 (fun r => some (r, [])) := by kernel_rfl
theorem f15_n {R : Type} (a0 : Qv0) (a1 : ByteArray) (k : (Qv0 × Int × Unit) × (Unit) → Option R) : f15_k a0 a1 k = (f15 a0 a1).bind k := by
  simp only [f15, f15_k, cond_bind, ite_bind, bind_bind, some_bind, none_bind, elim_bind, whenS_bind]
theorem f15_ok : SmOk Try.prog 15 f15_sm :=
  sum_of (c := f15_fx) (fn := Try.f15) (code := f15_code) (sm := f15_sm) mixed (env_ok env_envB) (TabsOk.all ⟨f40_c, f41_c, trivial⟩) Try.func15 (by kernel_rfl)
   ((LoopsOk.of (l := [f15_l5_b, f15_l9_b]) (by kernel_rfl) ⟨node_is (by kernel_rfl) f15_l5_ok, node_is (by kernel_rfl) f15_l9_ok, trivial⟩))
   (no_tails (by kernel_rfl)) rfl
   (fun ks x hl => by
    have hk : ks = [] := List.length_eq_zero_iff.1 hl
    subst hk
    exact (f15_m x).trans (f15_n _ _ _))
theorem f15_c : CalOk Try.prog 15 f15_sm := .inl ⟨f15_ok, ⟨Try.f15, Try.func15, by kernel_rfl, by kernel_rfl⟩⟩
noncomputable def f28_code : Code := (Try.f28.body).getD .skip
noncomputable def f28_l5_sk : SkS := ⟨9, [(4, .ptr 64 []), (1, .ptr 96 []), (20, .con (.int .i64)), (0, .con (.int .i64))], [(64, ⟨some 24, Qt2, Qt3, none⟩), (96, ⟨some 24, Qt2, Qt3, none⟩)]⟩
noncomputable def f28_l5_o0 : SkS := ⟨31, [(4, .ptr 64 []), (1, .ptr 96 [])], [(64, ⟨some 24, Qt2, Qt3, none⟩), (96, ⟨some 24, Qt2, Qt3, none⟩)]⟩
noncomputable def f28_l5_outs : List Way := [⟨(.exit 0), [], f28_l5_o0⟩]
abbrev f28_l5_C := (Int × Qv0 × (Option Nat) × (Option Nat))
abbrev f28_l5_X := (Int × Qv0)
abbrev f28_l5_Y := (Qv0)
noncomputable def f28_l5_con (t : f28_l5_sk.T) : f28_l5_C := (t.1.1, t.2.1.1, t.2.1.2, t.2.2.1.2)
noncomputable def f28_l5_get (t : f28_l5_sk.T) : f28_l5_X := (t.1.2.1, t.2.2.1.1)
noncomputable def f28_l5_put (c : f28_l5_C) (x : f28_l5_X) : f28_l5_sk.T := ((c.1, (x.1, ())), ((c.2.1, c.2.2.1), ((x.2, c.2.2.2), ())))
theorem f28_l5_pg (t : f28_l5_sk.T) : f28_l5_put (f28_l5_con t) (f28_l5_get t) = t := by kernel_rfl
noncomputable def f28_l5_w0 (c : f28_l5_C) (y : Qv0) : f28_l5_o0.T := ((), ((c.2.1, c.2.2.1), ((y, c.2.2.2), ())))
noncomputable def f28_l5_out (c : f28_l5_C) (y : f28_l5_Y) : OutV f28_l5_outs := (fun y => (.inl (f28_l5_w0 c y))) y
noncomputable def f28_l5_k {R : Type} (a0 : Int) (a1 : Int) (a2 : Qv0) (a3 : Qv0) (kin : f28_l5_X → Option R) (k0 : Qv0 → Option R) : Option R :=
 (cond (decide (a1 < a0))
 (if (List.length a3.2.2.1 + 1) * 24 ≤ most ∧ 0 < 24 ∧ 0 < 1 then (let r1 : List (List Int) := (a3.2.2.1 ++ [(List.replicate 128 (0 : Int))])
  (let v2 : Int := (IntKind.i64.wrap (a1 + (1 : Int)))
  (kin (v2, (a3.1, (a3.2.1, (r1, a3.2.2.2))))))) else none)
 (k0 a3))
noncomputable def f28_l5_g (a0 : Int) (a2 : Qv0) (x : f28_l5_X) : Option (f28_l5_X ⊕ f28_l5_Y) := f28_l5_k a0 x.1 a2 x.2 (fun x => some (.inl x)) (fun y => some (.inr y))
noncomputable def f28_l5 (a0 : Int) (a2 : Qv0) (x : f28_l5_X) : Option f28_l5_Y := loopO (f28_l5_g a0 a2) x
noncomputable def f28_l5_nd : Node := { nils := [], sk := f28_l5_sk, outs := f28_l5_outs, Y := f28_l5_Y, L := fun t => f28_l5 ((f28_l5_con t).1) ((f28_l5_con t).2.1) (f28_l5_get t), out := fun t y => f28_l5_out (f28_l5_con t) y, disp := fun t y K => (fun y => K (.exit 0) (f28_l5_o0.fill (f28_l5_w0 (f28_l5_con t) y))) y }
noncomputable def f28_fx : Fx := { E := env, T := [], H := [(4, Qt3), (6, Qt3), (34, (.own (.own .ro))), (33, (.own (.own .ro))), (35, (.own (.own .ro))), (36, (.own (.own .ro)))], O := [], nodes := [((true, 5), f28_l5_nd)] }
noncomputable def f28_l5_b : Code := (loops f28_code).getD 0 .skip
theorem f28_l5_r (c : f28_l5_C) (x : f28_l5_X) : roundS f28_fx f28_l5_b f28_l5_nd (f28_l5_put c x) = f28_l5_k c.1 x.1 c.2.1 x.2 (fun x => some (.inl (f28_l5_put c x))) (fun y => some (.inr (.inl (f28_l5_w0 c y)))) := by kernel_rfl
theorem f28_l5_n {R : Type} (a0 : Int) (a1 : Int) (a2 : Qv0) (a3 : Qv0) (kin : f28_l5_X → Option R) (k0 : Qv0 → Option R) : f28_l5_k a0 a1 a2 a3 kin k0 = (f28_l5_g a0 a2 (a1, a3)).bind (Sum.elim kin k0) := by
  simp only [f28_l5_g, f28_l5_k, cond_bind, ite_bind, bind_bind, some_bind, none_bind, elim_bind, whenS_bind, Sum.elim_inl, Sum.elim_inr]
theorem f28_l5_ok : LoopOk f28_fx f28_l5_b f28_l5_nd := loop_ok f28_l5_con f28_l5_get f28_l5_put f28_l5_pg (fun c => f28_l5_g c.1 c.2.1) f28_l5_out (fun t y => rfl) (fun t y K => rfl) (fun c x => by
  refine (f28_l5_r c x).trans ((f28_l5_n _ _ _ _ _ _).trans ?_)
  first
  | rfl
  | congr 1
    funext s
    rcases s with s | s <;> rfl) (fun t => rfl)
noncomputable def f28_k {R : Type} (a0 : Int) (a1 : Int) (k : (Qv0 × Int × Unit) × (Unit) → Option R) : Option R :=
 (cond (decide (a0 < (1 : Int)))
 (k ((((0 : Int), ((0 : Int), ([], ()))), ((1 : Int), ())), ()))
 (cond (decide (a0 > (20 : Int)))
  (k ((((0 : Int), ((0 : Int), ([], ()))), ((1 : Int), ())), ()))
  (cond (decide (a1 < (1 : Int)))
   (k ((((0 : Int), ((0 : Int), ([], ()))), ((1 : Int), ())), ()))
   (cond (decide (a1 > (12 : Int)))
    (k ((((0 : Int), ((0 : Int), ([], ()))), ((1 : Int), ())), ()))
    (let v0 : Int := (IntKind.i64.wrap (a0 * a1))
     ((f28_l5 v0 ((0 : Int), ((0 : Int), (([] : List (List Int)), ()))) ((0 : Int), (a0, (a1, ([], ()))))).bind fun y3 =>
     (k ((y3, ((0 : Int), ())), ()))))))))
noncomputable def f28 (a0 : Int) (a1 : Int) : Option ((Qv0 × Int × Unit) × (Unit)) := f28_k a0 a1 some
noncomputable def f28_sm : Sm := { ps := [.ro (.int .i64), .ro (.int .i64)], rs := [(Qt2, Qt3), ((.int .i64), .ro)], F := fun x => f28 x.1 x.2.1 }
theorem f28_m (x : ArgT [.ro (.int .i64), .ro (.int .i64)]) : codeS f28_fx f28_code (start [.ro (.int .i64), .ro (.int .i64)] [] x 38) (finK env [.cell 4 24, .tmp 5] [.ro (.int .i64), .ro (.int .i64)] [(Qt2, Qt3), ((.int .i64), .ro)]) = f28_k x.1 x.2.1 (fun r => some (r, [])) := by kernel_rfl
theorem f28_n {R : Type} (a0 : Int) (a1 : Int) (k : (Qv0 × Int × Unit) × (Unit) → Option R) : f28_k a0 a1 k = (f28 a0 a1).bind k := by
  simp only [f28, f28_k, cond_bind, ite_bind, bind_bind, some_bind, none_bind, elim_bind, whenS_bind]
theorem f28_ok : SmOk Try.prog 28 f28_sm :=
  sum_of (c := f28_fx) (fn := Try.f28) (code := f28_code) (sm := f28_sm) mixed (env_ok env_envB) (TabsOk.all trivial) Try.func28 (by kernel_rfl)
   ((LoopsOk.of (l := [f28_l5_b]) (by kernel_rfl) ⟨node_is (by kernel_rfl) f28_l5_ok, trivial⟩))
   (no_tails (by kernel_rfl)) rfl
   (fun ks x hl => by
    have hk : ks = [] := List.length_eq_zero_iff.1 hl
    subst hk
    exact (f28_m x).trans (f28_n _ _ _))
theorem f28_c : CalOk Try.prog 28 f28_sm := .inl ⟨f28_ok, ⟨Try.f28, Try.func28, by kernel_rfl, by kernel_rfl⟩⟩
noncomputable def f8_code : Code := (Try.f8.body).getD .skip
noncomputable def f8_l7_sk : SkS := ⟨23, [(4, .ptr 64 []), (1, .ptr 96 []), (18, .con (.int .i64))], [(64, ⟨some 24, Qt2, Qt3, none⟩), (96, ⟨some 24, Qt2, Qt3, none⟩)]⟩
noncomputable def f8_l7_o0 : SkS := ⟨42, [(4, .ptr 64 []), (1, .ptr 96 [])], [(64, ⟨some 24, Qt2, Qt3, none⟩), (96, ⟨some 24, Qt2, Qt3, none⟩)]⟩
noncomputable def f8_l7_outs : List Way := [⟨(.exit 0), [], f8_l7_o0⟩]
abbrev f8_l7_C := (Qv0 × (Option Nat) × (Option Nat))
abbrev f8_l7_X := (Int × Qv0)
abbrev f8_l7_Y := (Qv0)
noncomputable def f8_l7_con (t : f8_l7_sk.T) : f8_l7_C := (t.2.1.1, t.2.1.2, t.2.2.1.2)
noncomputable def f8_l7_get (t : f8_l7_sk.T) : f8_l7_X := (t.1.1, t.2.2.1.1)
noncomputable def f8_l7_put (c : f8_l7_C) (x : f8_l7_X) : f8_l7_sk.T := ((x.1, ()), ((c.1, c.2.1), ((x.2, c.2.2), ())))
theorem f8_l7_pg (t : f8_l7_sk.T) : f8_l7_put (f8_l7_con t) (f8_l7_get t) = t := by kernel_rfl
noncomputable def f8_l7_w0 (c : f8_l7_C) (y : Qv0) : f8_l7_o0.T := ((), ((c.1, c.2.1), ((y, c.2.2), ())))
noncomputable def f8_l7_out (c : f8_l7_C) (y : f8_l7_Y) : OutV f8_l7_outs := (fun y => (.inl (f8_l7_w0 c y))) y
noncomputable def f8_l7_k {R : Type} (a0 : Int) (a1 : Qv0) (a2 : Qv0) (kin : f8_l7_X → Option R) (k0 : Qv0 → Option R) : Option R :=
 (cond (decide (a0 < (256 : Int)))
 (cond (decide (a0 ≥ (10 : Int)))
  (cond (decide (a0 < ((List.length a2.2.2.1 : Nat) : Int)))
   (let v1 : Int := (IntKind.i64.wrap (Int.tdiv a0 (128 : Int)))
    (if (0 : Int) ≤ v1 ∧ v1 < ((List.length a2.2.2.1 : Nat) : Int) then (let v2 : Int := (Int.tmod a0 (128 : Int))
    (if (0 : Int) ≤ v2 ∧ v2 < ((List.length (List.getD a2.2.2.1 (Int.toNat v1) ([] : List Int)) : Nat) : Int) then (let v3 : Int := (IntKind.i64.wrap (a0 + (1 : Int)))
    (kin (v3, (a2.1, (a2.2.1, ((List.set a2.2.2.1 (Int.toNat v1) (List.set (List.getD a2.2.2.1 (Int.toNat v1) ([] : List Int)) (Int.toNat v2) (255 : Int))), a2.2.2.2)))))) else none)) else none))
   (let v4 : Int := (IntKind.i64.wrap (Int.tdiv a0 (128 : Int)))
    (if (0 : Int) ≤ v4 ∧ v4 < ((List.length a2.2.2.1 : Nat) : Int) then (let v5 : Int := (Int.tmod a0 (128 : Int))
    (if (0 : Int) ≤ v5 ∧ v5 < ((List.length (List.getD a2.2.2.1 (Int.toNat v4) ([] : List Int)) : Nat) : Int) then (let v6 : Int := (IntKind.i64.wrap (a0 + (1 : Int)))
    (kin (v6, (a2.1, (a2.2.1, ((List.set a2.2.2.1 (Int.toNat v4) (List.set (List.getD a2.2.2.1 (Int.toNat v4) ([] : List Int)) (Int.toNat v5) (253 : Int))), a2.2.2.2)))))) else none)) else none)))
  (let v7 : Int := (IntKind.i64.wrap (Int.tdiv a0 (128 : Int)))
   (if (0 : Int) ≤ v7 ∧ v7 < ((List.length a2.2.2.1 : Nat) : Int) then (let v8 : Int := (Int.tmod a0 (128 : Int))
   (if (0 : Int) ≤ v8 ∧ v8 < ((List.length (List.getD a2.2.2.1 (Int.toNat v7) ([] : List Int)) : Nat) : Int) then (let v9 : Int := (IntKind.i64.wrap (a0 + (1 : Int)))
   (kin (v9, (a2.1, (a2.2.1, ((List.set a2.2.2.1 (Int.toNat v7) (List.set (List.getD a2.2.2.1 (Int.toNat v7) ([] : List Int)) (Int.toNat v8) (253 : Int))), a2.2.2.2)))))) else none)) else none)))
 (k0 a2))
noncomputable def f8_l7_g (a1 : Qv0) (x : f8_l7_X) : Option (f8_l7_X ⊕ f8_l7_Y) := f8_l7_k x.1 a1 x.2 (fun x => some (.inl x)) (fun y => some (.inr y))
noncomputable def f8_l7 (a1 : Qv0) (x : f8_l7_X) : Option f8_l7_Y := loopO (f8_l7_g a1) x
noncomputable def f8_l7_nd : Node := { nils := [], sk := f8_l7_sk, outs := f8_l7_outs, Y := f8_l7_Y, L := fun t => f8_l7 ((f8_l7_con t).1) (f8_l7_get t), out := fun t y => f8_l7_out (f8_l7_con t) y, disp := fun t y K => (fun y => K (.exit 0) (f8_l7_o0.fill (f8_l7_w0 (f8_l7_con t) y))) y }
noncomputable def f8_fx : Fx := { E := env, T := [(28, f28_sm)], H := [(6, Qt3), (4, Qt3)], O := [], nodes := [((true, 7), f8_l7_nd)] }
noncomputable def f8_l7_b : Code := (loops f8_code).getD 0 .skip
theorem f8_l7_r (c : f8_l7_C) (x : f8_l7_X) : roundS f8_fx f8_l7_b f8_l7_nd (f8_l7_put c x) = f8_l7_k x.1 c.1 x.2 (fun x => some (.inl (f8_l7_put c x))) (fun y => some (.inr (.inl (f8_l7_w0 c y)))) := by kernel_rfl
theorem f8_l7_n {R : Type} (a0 : Int) (a1 : Qv0) (a2 : Qv0) (kin : f8_l7_X → Option R) (k0 : Qv0 → Option R) : f8_l7_k a0 a1 a2 kin k0 = (f8_l7_g a1 (a0, a2)).bind (Sum.elim kin k0) := by
  simp only [f8_l7_g, f8_l7_k, cond_bind, ite_bind, bind_bind, some_bind, none_bind, elim_bind, whenS_bind, Sum.elim_inl, Sum.elim_inr]
theorem f8_l7_ok : LoopOk f8_fx f8_l7_b f8_l7_nd := loop_ok f8_l7_con f8_l7_get f8_l7_put f8_l7_pg (fun c => f8_l7_g c.1) f8_l7_out (fun t y => rfl) (fun t y K => rfl) (fun c x => by
  refine (f8_l7_r c x).trans ((f8_l7_n _ _ _ _ _).trans ?_)
  first
  | rfl
  | congr 1
    funext s
    rcases s with s | s <;> rfl) (fun t => rfl)
noncomputable def f8_k {R : Type} (a0 : Int) (a1 : Int) (k : (Qv0 × Int × Unit) × (Unit) → Option R) : Option R :=
 ((f28 a0 a1).bind fun r0 =>
 (cond (r0.1.2.1 != (0 : Int))
 (k ((((0 : Int), ((0 : Int), ([], ()))), (r0.1.2.1, ())), ()))
 (cond (decide (((List.length r0.1.1.2.2.1 : Nat) : Int) ≤ (10 : Int)))
  (k ((((0 : Int), ((0 : Int), ([], ()))), ((13 : Int), ())), ()))
  ((f8_l7 ((0 : Int), ((0 : Int), (([] : List (List Int)), ()))) ((0 : Int), r0.1.1)).bind fun y10 =>
   (k ((y10, ((0 : Int), ())), ()))))))
noncomputable def f8 (a0 : Int) (a1 : Int) : Option ((Qv0 × Int × Unit) × (Unit)) := f8_k a0 a1 some
noncomputable def f8_sm : Sm := { ps := [.ro (.int .i64), .ro (.int .i64)], rs := [(Qt2, Qt3), ((.int .i64), .ro)], F := fun x => f8 x.1 x.2.1 }
theorem f8_m (x : ArgT [.ro (.int .i64), .ro (.int .i64)]) : codeS f8_fx f8_code (start [.ro (.int .i64), .ro (.int .i64)] [] x 49) (finK env [.cell 4 24, .tmp 5] [.ro (.int .i64), .ro (.int .i64)] [(Qt2, Qt3), ((.int .i64), .ro)]) = f8_k x.1 x.2.1 (fun r => some (r, [])) := by kernel_rfl
theorem f8_n {R : Type} (a0 : Int) (a1 : Int) (k : (Qv0 × Int × Unit) × (Unit) → Option R) : f8_k a0 a1 k = (f8 a0 a1).bind k := by
  simp only [f8, f8_k, cond_bind, ite_bind, bind_bind, some_bind, none_bind, elim_bind, whenS_bind]
theorem f8_ok : SmOk Try.prog 8 f8_sm :=
  sum_of (c := f8_fx) (fn := Try.f8) (code := f8_code) (sm := f8_sm) mixed (env_ok env_envB) (TabsOk.all ⟨f28_c, trivial⟩) Try.func8 (by kernel_rfl)
   ((LoopsOk.of (l := [f8_l7_b]) (by kernel_rfl) ⟨node_is (by kernel_rfl) f8_l7_ok, trivial⟩))
   (no_tails (by kernel_rfl)) rfl
   (fun ks x hl => by
    have hk : ks = [] := List.length_eq_zero_iff.1 hl
    subst hk
    exact (f8_m x).trans (f8_n _ _ _))
theorem f8_c : CalOk Try.prog 8 f8_sm := .inl ⟨f8_ok, ⟨Try.f8, Try.func8, by kernel_rfl, by kernel_rfl⟩⟩
noncomputable def f32_code : Code := (Try.f32.body).getD .skip
noncomputable def f32_l6_sk : SkS := ⟨19, [(1, .ptr 16 []), (3, .con (.int .i64)), (0, .con (.int .i64))], [(16, ⟨some 24, Qt2, .ro, none⟩)]⟩
noncomputable def f32_l6_o0 : SkS := ⟨20, [(5, .con (.int .i64))], []⟩
noncomputable def f32_l6_outs : List Way := [⟨(.exit 0), [], f32_l6_o0⟩]
abbrev f32_l6_C := (Qv0 × (Option Nat))
abbrev f32_l6_X := (Int × Int)
abbrev f32_l6_Y := (Int)
noncomputable def f32_l6_con (t : f32_l6_sk.T) : f32_l6_C := (t.2.1.1, t.2.1.2)
noncomputable def f32_l6_get (t : f32_l6_sk.T) : f32_l6_X := (t.1.1, t.1.2.1)
noncomputable def f32_l6_put (c : f32_l6_C) (x : f32_l6_X) : f32_l6_sk.T := ((x.1, (x.2, ())), ((c.1, c.2), ()))
theorem f32_l6_pg (t : f32_l6_sk.T) : f32_l6_put (f32_l6_con t) (f32_l6_get t) = t := by kernel_rfl
noncomputable def f32_l6_w0 (c : f32_l6_C) (y : Int) : f32_l6_o0.T := ((y, ()), ())
noncomputable def f32_l6_out (c : f32_l6_C) (y : f32_l6_Y) : OutV f32_l6_outs := (fun y => (.inl (f32_l6_w0 c y))) y
noncomputable def f32_l6_k {R : Type} (a0 : Int) (a1 : Int) (a2 : Qv0) (kin : f32_l6_X → Option R) (k0 : Int → Option R) : Option R :=
 (cond (decide (a1 < ((List.length a2.2.2.1 : Nat) : Int)))
 ((f42 a2 a1).bind fun r1 =>
  (cond (r1.1.1 == (255 : Int))
  (let v2 : Int := (IntKind.i64.wrap (a0 + (1 : Int)))
   (let v3 : Int := (IntKind.i64.wrap (a1 + (1 : Int)))
   (kin (v2, v3))))
  (let v4 : Int := (IntKind.i64.wrap (a1 + (1 : Int)))
   (kin (a0, v4)))))
 (k0 a0))
noncomputable def f32_l6_g (a2 : Qv0) (x : f32_l6_X) : Option (f32_l6_X ⊕ f32_l6_Y) := f32_l6_k x.1 x.2 a2 (fun x => some (.inl x)) (fun y => some (.inr y))
noncomputable def f32_l6 (a2 : Qv0) (x : f32_l6_X) : Option f32_l6_Y := loopO (f32_l6_g a2) x
noncomputable def f32_l6_nd : Node := { nils := [], sk := f32_l6_sk, outs := f32_l6_outs, Y := f32_l6_Y, L := fun t => f32_l6 ((f32_l6_con t).1) (f32_l6_get t), out := fun t y => f32_l6_out (f32_l6_con t) y, disp := fun t y K => (fun y => K (.exit 0) (f32_l6_o0.fill (f32_l6_w0 (f32_l6_con t) y))) y }
noncomputable def f32_fx : Fx := { E := env, T := [(34, f34_sm), (42, f42_sm)], H := [], O := [], nodes := [((true, 6), f32_l6_nd)] }
noncomputable def f32_l6_b : Code := (loops f32_code).getD 0 .skip
theorem f32_l6_r (c : f32_l6_C) (x : f32_l6_X) : roundS f32_fx f32_l6_b f32_l6_nd (f32_l6_put c x) = f32_l6_k x.1 x.2 c.1 (fun x => some (.inl (f32_l6_put c x))) (fun y => some (.inr (.inl (f32_l6_w0 c y)))) := by kernel_rfl
theorem f32_l6_n {R : Type} (a0 : Int) (a1 : Int) (a2 : Qv0) (kin : f32_l6_X → Option R) (k0 : Int → Option R) : f32_l6_k a0 a1 a2 kin k0 = (f32_l6_g a2 (a0, a1)).bind (Sum.elim kin k0) := by
  simp only [f32_l6_g, f32_l6_k, cond_bind, ite_bind, bind_bind, some_bind, none_bind, elim_bind, whenS_bind, Sum.elim_inl, Sum.elim_inr]
theorem f32_l6_ok : LoopOk f32_fx f32_l6_b f32_l6_nd := loop_ok f32_l6_con f32_l6_get f32_l6_put f32_l6_pg (fun c => f32_l6_g c.1) f32_l6_out (fun t y => rfl) (fun t y K => rfl) (fun c x => by
  refine (f32_l6_r c x).trans ((f32_l6_n _ _ _ _ _).trans ?_)
  first
  | rfl
  | congr 1
    funext s
    rcases s with s | s <;> rfl) (fun t => rfl)
noncomputable def f32_k {R : Type} (a0 : Qv0) (k : (Int × Int × Unit) × (Unit) → Option R) : Option R :=
 ((f34 a0).bind fun r0 =>
 (cond (r0.1.1 != (0 : Int))
 (k (((0 : Int), (r0.1.1, ())), ()))
 ((f32_l6 a0 ((0 : Int), (10 : Int))).bind fun y5 =>
  (k ((y5, ((0 : Int), ())), ())))))
noncomputable def f32 (a0 : Qv0) : Option ((Int × Int × Unit) × (Unit)) := f32_k a0 some
noncomputable def f32_sm : Sm := { ps := [.ro Qt2], rs := [((.int .i64), .ro), ((.int .i64), .ro)], F := fun x => f32 x.1 }
theorem f32_m (x : ArgT [.ro Qt2]) : codeS f32_fx f32_code (start [.ro Qt2] [] x 26) (finK env [.tmp 2, .tmp 3] [.ro Qt2] [((.int .i64), .ro), ((.int .i64), .ro)]) = f32_k x.1 (fun r => some (r, [])) := by kernel_rfl
theorem f32_n {R : Type} (a0 : Qv0) (k : (Int × Int × Unit) × (Unit) → Option R) : f32_k a0 k = (f32 a0).bind k := by
  simp only [f32, f32_k, cond_bind, ite_bind, bind_bind, some_bind, none_bind, elim_bind, whenS_bind]
theorem f32_ok : SmOk Try.prog 32 f32_sm :=
  sum_of (c := f32_fx) (fn := Try.f32) (code := f32_code) (sm := f32_sm) mixed (env_ok env_envB) (TabsOk.all ⟨f34_c, f42_c, trivial⟩) Try.func32 (by kernel_rfl)
   ((LoopsOk.of (l := [f32_l6_b]) (by kernel_rfl) ⟨node_is (by kernel_rfl) f32_l6_ok, trivial⟩))
   (no_tails (by kernel_rfl)) rfl
   (fun ks x hl => by
    have hk : ks = [] := List.length_eq_zero_iff.1 hl
    subst hk
    exact (f32_m x).trans (f32_n _ _))
theorem f32_c : CalOk Try.prog 32 f32_sm := .inl ⟨f32_ok, ⟨Try.f32, Try.func32, by kernel_rfl, by kernel_rfl⟩⟩
noncomputable def f10_code : Code := (Try.f10.body).getD .skip
noncomputable def f10_fx : Fx := { E := env, T := [(8, f8_sm), (32, f32_sm)], H := [], O := [], nodes := [] }
noncomputable def f10_k {R : Type} (k : (Bool × Unit) × (Unit) → Option R) : Option R :=
 ((f8 (4 : Int) (5 : Int)).bind fun r0 =>
 ((f32 r0.1.1).bind fun r1 =>
 (cond (r0.1.2.1 == (0 : Int))
 (cond (r1.1.2.1 == (0 : Int))
  (k (((r1.1.1 == (10 : Int)), ()), ()))
  (k ((false, ()), ())))
 (k ((false, ()), ())))))
noncomputable def f10 : Option ((Bool × Unit) × (Unit)) := f10_k some
noncomputable def f10_sm : Sm := { ps := [], rs := [(.bool, .ro)], F := fun x => f10 }
theorem f10_m (x : ArgT []) : codeS f10_fx f10_code (start [] [] x 24) (finK env [.tmp 0] [] [(.bool, .ro)]) = f10_k (fun r => some (r, [])) := by kernel_rfl
theorem f10_n {R : Type} (k : (Bool × Unit) × (Unit) → Option R) : f10_k k = (f10).bind k := by
  simp only [f10, f10_k, cond_bind, ite_bind, bind_bind, some_bind, none_bind, elim_bind, whenS_bind]
theorem f10_ok : SmOk Try.prog 10 f10_sm :=
  sum_of (c := f10_fx) (fn := Try.f10) (code := f10_code) (sm := f10_sm) mixed (env_ok env_envB) (TabsOk.all ⟨f8_c, f32_c, trivial⟩) Try.func10 (by kernel_rfl)
   ((LoopsOk.of (l := []) (by kernel_rfl) trivial))
   (no_tails (by kernel_rfl)) rfl
   (fun ks x hl => by
    have hk : ks = [] := List.length_eq_zero_iff.1 hl
    subst hk
    exact (f10_m x).trans (f10_n _))
theorem f10_c : CalOk Try.prog 10 f10_sm := .inl ⟨f10_ok, ⟨Try.f10, Try.func10, by kernel_rfl, by kernel_rfl⟩⟩
noncomputable def f13_code : Code := (Try.f13.body).getD .skip
noncomputable def f13_l4_sk : SkS := ⟨16, [(2, .ptr 32 []), (0, .ptr 48 []), (25, .con (.int .i64)), (0, .con (.int .i64))], [(32, ⟨some 24, Qt2, .ro, none⟩), (48, ⟨some 24, Qt2, .ro, none⟩)]⟩
noncomputable def f13_l4_o0 : SkS := ⟨42, [(4, .con .bool)], []⟩
noncomputable def f13_l4_o1 : SkS := ⟨47, [], []⟩
noncomputable def f13_l4_outs : List Way := [⟨.ret, [], f13_l4_o0⟩, ⟨(.exit 0), [], f13_l4_o1⟩]
abbrev f13_l4_C := (Int × Qv0 × Qv0 × (Option Nat) × (Option Nat))
abbrev f13_l4_X := Int
abbrev f13_l4_Y := (Unit) ⊕ (Unit)
noncomputable def f13_l4_con (t : f13_l4_sk.T) : f13_l4_C := (t.1.1, t.2.1.1, t.2.2.1.1, t.2.1.2, t.2.2.1.2)
noncomputable def f13_l4_get (t : f13_l4_sk.T) : f13_l4_X := t.1.2.1
noncomputable def f13_l4_put (c : f13_l4_C) (x : f13_l4_X) : f13_l4_sk.T := ((c.1, (x, ())), ((c.2.1, c.2.2.2.1), ((c.2.2.1, c.2.2.2.2), ())))
theorem f13_l4_pg (t : f13_l4_sk.T) : f13_l4_put (f13_l4_con t) (f13_l4_get t) = t := by kernel_rfl
noncomputable def f13_l4_w0 (c : f13_l4_C) (y : Unit) : f13_l4_o0.T := ((false, ()), ())
noncomputable def f13_l4_w1 (c : f13_l4_C) (y : Unit) : f13_l4_o1.T := ((), ())
noncomputable def f13_l4_out (c : f13_l4_C) (y : f13_l4_Y) : OutV f13_l4_outs := (Sum.elim (fun y => (.inl (f13_l4_w0 c y))) (fun y => (.inr (.inl (f13_l4_w1 c y))))) y
noncomputable def f13_l4_k {R : Type} (a0 : Int) (a1 : Int) (a2 : Qv0) (a3 : Qv0) (kin : f13_l4_X → Option R) (k0 : Unit → Option R) (k1 : Unit → Option R) : Option R :=
 (cond (decide (a1 < a0))
 (if (0 : Int) ≤ a1 ∧ a1 < ((List.length a2.2.2.1 : Nat) : Int) then (if (0 : Int) ≤ a1 ∧ a1 < ((List.length a3.2.2.1 : Nat) : Int) then (cond (!strEq (b2s (List.getD a2.2.2.1 (Int.toNat a1) ([] : List Int))) (b2s (List.getD a3.2.2.1 (Int.toNat a1) ([] : List Int))))
  (k0 ())
  (let v0 : Int := (IntKind.i64.wrap (a1 + (1 : Int)))
   (kin v0))) else none) else none)
 (k1 ()))
noncomputable def f13_l4_g (a0 : Int) (a2 : Qv0) (a3 : Qv0) (x : f13_l4_X) : Option (f13_l4_X ⊕ f13_l4_Y) := f13_l4_k a0 x a2 a3 (fun x => some (.inl x)) (fun y => some (.inr (.inl y))) (fun y => some (.inr (.inr y)))
noncomputable def f13_l4 (a0 : Int) (a2 : Qv0) (a3 : Qv0) (x : f13_l4_X) : Option f13_l4_Y := loopO (f13_l4_g a0 a2 a3) x
noncomputable def f13_l4_nd : Node := { nils := [], sk := f13_l4_sk, outs := f13_l4_outs, Y := f13_l4_Y, L := fun t => f13_l4 ((f13_l4_con t).1) ((f13_l4_con t).2.1) ((f13_l4_con t).2.2.1) (f13_l4_get t), out := fun t y => f13_l4_out (f13_l4_con t) y, disp := fun t y K => (Sum.elim (fun y => K .ret (f13_l4_o0.fill (f13_l4_w0 (f13_l4_con t) y))) (fun y => K (.exit 0) (f13_l4_o1.fill (f13_l4_w1 (f13_l4_con t) y)))) y }
noncomputable def f13_fx : Fx := { E := env, T := [], H := [], O := [], nodes := [((true, 4), f13_l4_nd)] }
noncomputable def f13_l4_b : Code := (loops f13_code).getD 0 .skip
theorem f13_l4_r (c : f13_l4_C) (x : f13_l4_X) : roundS f13_fx f13_l4_b f13_l4_nd (f13_l4_put c x) = f13_l4_k c.1 x c.2.1 c.2.2.1 (fun x => some (.inl (f13_l4_put c x))) (fun y => some (.inr (.inl (f13_l4_w0 c y)))) (fun y => some (.inr (.inr (.inl (f13_l4_w1 c y))))) := by kernel_rfl
theorem f13_l4_n {R : Type} (a0 : Int) (a1 : Int) (a2 : Qv0) (a3 : Qv0) (kin : f13_l4_X → Option R) (k0 : Unit → Option R) (k1 : Unit → Option R) : f13_l4_k a0 a1 a2 a3 kin k0 k1 = (f13_l4_g a0 a2 a3 a1).bind (Sum.elim kin (Sum.elim k0 k1)) := by
  simp only [f13_l4_g, f13_l4_k, cond_bind, ite_bind, bind_bind, some_bind, none_bind, elim_bind, whenS_bind, Sum.elim_inl, Sum.elim_inr]
theorem f13_l4_ok : LoopOk f13_fx f13_l4_b f13_l4_nd := loop_ok f13_l4_con f13_l4_get f13_l4_put f13_l4_pg (fun c => f13_l4_g c.1 c.2.1 c.2.2.1) f13_l4_out (fun t y => rfl) (by intro R t y K; rcases y with y | y <;> rfl) (fun c x => by
  refine (f13_l4_r c x).trans ((f13_l4_n _ _ _ _ _ _ _).trans ?_)
  first
  | rfl
  | congr 1
    funext s
    rcases s with s | s | s <;> rfl) (fun t => rfl)
noncomputable def f13_k {R : Type} (a0 : Qv0) (a1 : Qv0) (k : (Bool × Unit) × (Unit) → Option R) : Option R :=
 (cond (a0.1 != a1.1)
 (k ((false, ()), ()))
 (cond (a0.2.1 != a1.2.1)
  (k ((false, ()), ()))
  (cond (((List.length a0.2.2.1 : Nat) : Int) != ((List.length a1.2.2.1 : Nat) : Int))
   (k ((false, ()), ()))
   ((f13_l4 ((List.length a0.2.2.1 : Nat) : Int) a0 a1 (0 : Int)).bind fun y1 =>
    ((Sum.elim (fun z2 =>
    (k ((false, ()), ())))
    (fun z3 =>
    (k ((true, ()), ())))) y1)))))
noncomputable def f13 (a0 : Qv0) (a1 : Qv0) : Option ((Bool × Unit) × (Unit)) := f13_k a0 a1 some
noncomputable def f13_sm : Sm := { ps := [.ro Qt2, .ro Qt2], rs := [(.bool, .ro)], F := fun x => f13 x.1 x.2.1 }
theorem f13_m (x : ArgT [.ro Qt2, .ro Qt2]) : codeS f13_fx f13_code (start [.ro Qt2, .ro Qt2] [] x 47) (finK env [.tmp 4] [.ro Qt2, .ro Qt2] [(.bool, .ro)]) = f13_k x.1 x.2.1 (fun r => some (r, [])) := by kernel_rfl
theorem f13_n {R : Type} (a0 : Qv0) (a1 : Qv0) (k : (Bool × Unit) × (Unit) → Option R) : f13_k a0 a1 k = (f13 a0 a1).bind k := by
  simp only [f13, f13_k, cond_bind, ite_bind, bind_bind, some_bind, none_bind, elim_bind, whenS_bind]
theorem f13_ok : SmOk Try.prog 13 f13_sm :=
  sum_of (c := f13_fx) (fn := Try.f13) (code := f13_code) (sm := f13_sm) mixed (env_ok env_envB) (TabsOk.all trivial) Try.func13 (by kernel_rfl)
   ((LoopsOk.of (l := [f13_l4_b]) (by kernel_rfl) ⟨node_is (by kernel_rfl) f13_l4_ok, trivial⟩))
   (no_tails (by kernel_rfl)) rfl
   (fun ks x hl => by
    have hk : ks = [] := List.length_eq_zero_iff.1 hl
    subst hk
    exact (f13_m x).trans (f13_n _ _ _))
theorem f13_c : CalOk Try.prog 13 f13_sm := .inl ⟨f13_ok, ⟨Try.f13, Try.func13, by kernel_rfl, by kernel_rfl⟩⟩
noncomputable def f4_code : Code := (Try.f4.body).getD .skip
noncomputable def f4_fx : Fx := { E := env, T := [(14, f14_sm), (15, f15_sm), (10, f10_sm), (13, f13_sm)], H := [], O := [], nodes := [] }
noncomputable def f4_k {R : Type} (a0 : Qv0) (a1 : ByteArray) (k : (Bool × Unit) × (Unit) → Option R) : Option R :=
 ((f14 a0 a1).bind fun r0 =>
 ((f15 a0 a1).bind fun r1 =>
 ((f10).bind fun r2 =>
 (cond r2.1.1
 (cond (r0.1.2.1 == r1.1.2.1)
  ((f13 r0.1.1 r1.1.1).bind fun r3 =>
   (k ((r3.1.1, ()), ())))
  (k ((false, ()), ())))
 (k ((false, ()), ()))))))
noncomputable def f4 (a0 : Qv0) (a1 : ByteArray) : Option ((Bool × Unit) × (Unit)) := f4_k a0 a1 some
noncomputable def f4_sm : Sm := { ps := [.ro Qt2, .ro .str], rs := [(.bool, .ro)], F := fun x => f4 x.1 x.2.1 }
theorem f4_m (x : ArgT [.ro Qt2, .ro .str]) : codeS f4_fx f4_code (start [.ro Qt2, .ro .str] [] x 32) (finK env [.tmp 4] [.ro Qt2, .ro .str] [(.bool, .ro)]) = f4_k x.1 x.2.1 (fun r => some (r, [])) := by kernel_rfl
theorem f4_n {R : Type} (a0 : Qv0) (a1 : ByteArray) (k : (Bool × Unit) × (Unit) → Option R) : f4_k a0 a1 k = (f4 a0 a1).bind k := by
  simp only [f4, f4_k, cond_bind, ite_bind, bind_bind, some_bind, none_bind, elim_bind, whenS_bind]
theorem f4_ok : SmOk Try.prog 4 f4_sm :=
  sum_of (c := f4_fx) (fn := Try.f4) (code := f4_code) (sm := f4_sm) mixed (env_ok env_envB) (TabsOk.all ⟨f14_c, f15_c, f10_c, f13_c, trivial⟩) Try.func4 (by kernel_rfl)
   ((LoopsOk.of (l := []) (by kernel_rfl) trivial))
   (no_tails (by kernel_rfl)) rfl
   (fun ks x hl => by
    have hk : ks = [] := List.length_eq_zero_iff.1 hl
    subst hk
    exact (f4_m x).trans (f4_n _ _ _))
end Go.Proofs.Ytmfjebpdkgbggaa.V
